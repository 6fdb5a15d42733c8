/- The walks of package handover, seventh part: Before. -/
import Derived.Test.YtpmakhfpdidleaaDoorQ18
namespace Go.Proofs.YtpmakhfpdidleaaDoor
open Go.RowKit Go.Shelf Go.Maps
set_option linter.unusedVariables false
set_option linter.unusedSimpArgs false
set_option maxRecDepth 100000
attribute [local go_sem] Oper.semAt_some
/-- The loop of Before between two rounds. -/
structure BefJ (w : World) (T8 D lr bm Bl Bp Bm : Nat) (r : Loop) (A : Option Addr) (n c : Nat) (person : ByteArray) (mo : Nat) (R : List TotD) (k : Nat) (W : World) : Prop where
  rcd : W.heap[lr]? = some (Rng.readyOf r)
  dfr : W.heap[D]? = some (.deferred (some []))
  box : W.heap[T8]? = some (.cells #[.map (some bm)] 65 (0, 0))
  mp : ∃ Dm, W.ownsMap Tryd.prog 9 totR bm k Dm ∧ Late (lateL (R.take k)) Dm
  l : W.heap[Bl]? = some (.cells #[.slice A n c] 32 (0, 0))
  p : W.heap[Bp]? = some (.cells #[.string person] 9 (0, 0))
  m : W.heap[Bm]? = some (.cells #[.int .i64 (mo : Int)] 3 (0, 0))
  bel : Below w.heap.size w W
  kle : k ≤ R.length
  sz : lr + 1 ≤ W.heap.size
theorem bef_round {w W0 W5 W8 : World} {T8 D lr bm Bl Bp Bm : Nat} {r : Loop} {A : Option Addr} {n c : Nat} {person : ByteArray} {mo : Nat} {R : List TotD} {k : Nat}
    (hord : w.heap.size ≤ bm ∧ bm < T8 ∧ T8 < Bl ∧ Bl < Bp ∧ Bp < Bm ∧ Bm < D ∧ D < lr) (hJ : BefJ w T8 D lr bm Bl Bp Bm r A n c person mo R k W0) (hB : Below W0.heap.size W0 W5) (h8 : W8.heap[lr]? = some (Rng.busyOf r))
    (hk : ∀ b, b < W5.heap.size → b ≠ bm → b ≠ lr → W8.heap[b]? = W5.heap[b]?) (hsz : W5.heap.size ≤ W8.heap.size) (hbel : Below w.heap.size w W8)
    (hm : ∃ D', W8.ownsMap Tryd.prog 9 totR bm (k + 1) D' ∧ Late (lateL (R.take (k + 1))) D') (hk1 : k < R.length) :
    W8.heap[lr]? = some (Rng.busyOf r) ∧ ((Ending.returned (.bool true) = Ending.returned (.bool true) ∧ BefJ w T8 D lr bm Bl Bp Bm r A n c person mo R (k + 1) (W8.putObj lr (Rng.readyOf r))) ∧
      (∀ b, lr + 1 ≤ b → b < W5.heap.size → (W8.putObj lr (Rng.readyOf r)).heap[b]? = W5.heap[b]?) ∧ W5.heap.size ≤ (W8.putObj lr (Rng.readyOf r)).heap.size) := by
  obtain ⟨rcd, dfr, box, _, l, p, m, bel, kle, sz⟩ := hJ
  obtain ⟨o1, o2, o3, o4, o5, o6, o7⟩ := hord
  have hs5 := hB.size
  have hpo : ∀ b, b ≠ lr → (W8.putObj lr (Rng.readyOf r)).heap[b]? = W8.heap[b]? := fun b h => World.putObj_heap_other h
  have hl8 : lr < W8.heap.size := by omega
  have go : ∀ b, b < lr → b ≠ bm → (W8.putObj lr (Rng.readyOf r)).heap[b]? = W0.heap[b]? := fun b h1 h2 => (hpo b (by omega)).trans ((hk b (by omega) h2 (by omega)).trans (hB.block b (by omega)))
  obtain ⟨D', hm1, hm2⟩ := hm
  refine ⟨h8, ⟨rfl, ⟨World.putObj_heap_same hl8, (go D (by omega) (by omega)).trans dfr, (go T8 (by omega) (by omega)).trans box, ⟨D', ownsMap_block hm1 (hpo bm (by omega)), hm2⟩, (go Bl (by omega) (by omega)).trans l, (go Bp (by omega) (by omega)).trans p, (go Bm (by omega) (by omega)).trans m, below_putObj hbel hbel.size (by omega) _, by omega, by simp; omega⟩⟩, ?_, by simp; omega⟩
  intro b h1 h2
  exact (hpo b (by omega)).trans (hk b h2 (by omega) (by omega))
set_option maxHeartbeats 1000000 in
theorem before_bad (A : Option Addr) (n c : Nat) (person : ByteArray) (m : Int) (hm : ¬ (0 ≤ m ∧ m ≤ 1199)) (w : World) :
    Calls Tryd.prog 12 #[.slice A n c, .string person, .int .i64 m] w fun e w' => e = .returned (.tuple #[.int .i64 0, .int .i64 0]) ∧ Below w.heap.size w w' := by
  go_enter Tryd.func12, Tryd.ntmps12
  by_cases h : m < 0
  · go_wp2
    go_ret2
    exact ⟨rfl, Below.refl _ _⟩
  · have h2 : (1199 : Int) < m := by omega
    go_wp2
    go_ret2
    exact ⟨rfl, Below.refl _ _⟩
set_option maxHeartbeats 8000000 in
theorem before_ok (A : Option Addr) (n c : Nat) (ts : List TotD) (hn : ts.length = n) (hnl : n ≤ 100) (person : ByteArray) (mo : Nat) (hmo : mo ≤ 1199) (R : List TotD) (hR : Hid (ts.filter (cntB person (mo : Int)) = R)) (hwf : ∀ t ∈ ts, t.e.size ≤ maxLen ∧ t.p.size ≤ maxLen) (w : World) (hS : Sl w w.heap.size 5 A n (ts.flatMap totL5)) :
    Calls Tryd.prog 12 #[.slice A n c, .string person, .int .i64 (mo : Int)] w fun e w' => e = .returned (.tuple #[.int .i64 (sumA TotD.g (lateL R)), .int .i64 (sumA TotD.x (lateL R))]) ∧ Below w.heap.size w w' := by
  have hmm := @run_makeMap Tryd.prog
  have HS := Lib.hid hS
  have Hwf := Lib.hid hwf
  have hRl : R.length ≤ 100 := by rw [← hR.out]; exact Nat.le_trans (List.length_filter_le _ _) (by omega)
  have hRv : ∀ t ∈ R, validTB t = true ∧ t.e.size ≤ maxLen := by
    intro t ht
    rw [← hR.out] at ht
    obtain ⟨h1, h2⟩ := List.mem_filter.1 ht
    refine ⟨?_, (hwf t h1).1⟩
    unfold cntB at h2
    simp only [Bool.and_eq_true] at h2
    exact h2.1.1.1
  have HRv := Lib.hid hRv
  clear hS hwf hRv
  refine (callsIn_wide (n := 4)).1 ?_
  refine callsIn_of_wp_marks Tryd.func12 rfl trivial ?_ rfl
  simp only [Tryd.ntmps12, List.size_toArray, List.length_cons, List.length_nil, Nat.reduceAdd, Nat.reduceSub, Array.replicate_succ, Array.replicate_zero, List.push_toArray, List.append_toArray, List.nil_append, List.cons_append]
  refine wpIn_wide.2 ?_
  have hm1 : ¬ (mo : Int) < 0 := by omega
  have hm2 : ¬ (1199 : Int) < (mo : Int) := by omega
  go_upto_region 4 with fail
  clear hm1 hm2
  obtain ⟨W2, hW2⟩ : ∃ W, W = (w.alloc (.map #[] 0)).alloc (.cells #[.map (some w.heap.size)] 65) := ⟨_, rfl⟩
  rw [← hW2]
  have HW2 := Lib.hid hW2
  clear hW2
  go_wp2_with fail
  refine (counting_any A n c person (mo : Int) W2).mono ?_
  rintro e w' ⟨rfl, rfl⟩
  go_wp2_with fail
  have hW2 := HW2.out
  clear HW2
  obtain ⟨w3, hw3⟩ : ∃ W, W = ((W2.alloc (.cells #[.slice A n c] 32 (0, 0))).alloc (.cells #[.string person] 9 (0, 0))).alloc (.cells #[.int .i64 (mo : Int)] 3 (0, 0)) := ⟨_, rfl⟩
  rw [← hw3]
  obtain ⟨bm, hbm⟩ : ∃ n, n = w.heap.size := ⟨_, rfl⟩
  obtain ⟨T8, hT8⟩ : ∃ n, n = w.heap.size + 1 := ⟨_, rfl⟩
  obtain ⟨Bl, hBl⟩ : ∃ n, n = W2.heap.size := ⟨_, rfl⟩
  obtain ⟨Bp, hBp⟩ : ∃ n, n = W2.heap.size + 1 := ⟨_, rfl⟩
  obtain ⟨Bm, hBm⟩ : ∃ n, n = W2.heap.size + 1 + 1 := ⟨_, rfl⟩
  try rw [← hBm]
  try rw [← hBp]
  try rw [← hBl]
  try rw [← hT8]
  have z0 : W2.heap.size = w.heap.size + 2 := by rw [hW2]; simp
  have z1 : w3.heap.size = W2.heap.size + 3 := by rw [hw3]; simp
  have hB02 : Below w.heap.size w W2 := by rw [hW2]; exact bal (bal (Below.refl _ _) _) _
  have hB23 : Below W2.heap.size W2 w3 := by rw [hw3]; exact bal (bal (bal (Below.refl _ _) _) _) _
  have hBw3 := bgo hB02 hB23
  have hmap2 : W2.ownsMap Tryd.prog 9 totR bm 0 (.map []) := by
    rw [hW2, hbm]
    exact (World.ownsMap_made w _ _ _).alloc _
  have q8 : W2.heap[T8]? = some (.cells #[.map (some bm)] 65 (0, 0)) := by
    rw [hW2, hT8, hbm]
    exact heap_alloc2_new w _ _
  have q1 : w3.heap[Bl]? = some (.cells #[.slice A n c] 32 (0, 0)) := by
    rw [hw3, hBl]
    exact (Below.heap_alloc _ _ _ (by simp; omega)).trans (heap_alloc2_old W2 _ _)
  have q2 : w3.heap[Bp]? = some (.cells #[.string person] 9 (0, 0)) := by
    rw [hw3, hBp]
    exact (Below.heap_alloc _ _ _ (by simp)).trans (heap_alloc2_new W2 _ _)
  have q3 : w3.heap[Bm]? = some (.cells #[.int .i64 (mo : Int)] 3 (0, 0)) := by
    rw [hw3, hBm]
    have := heap_alloc2_new (W2.alloc (.cells #[.slice A n c] 32 (0, 0))) (.cells #[.string person] 9 (0, 0)) (.cells #[.int .i64 (mo : Int)] 3 (0, 0))
    rwa [show (W2.alloc (.cells #[.slice A n c] 32 (0, 0))).heap.size + 1 = W2.heap.size + 1 + 1 by simp] at this
  have hmap3 := ownsMap_below hmap2 hB23
  have q4 := (hB23.block T8 (by omega)).trans q8
  have Q := Lib.hid (And.intro hmap3 (And.intro q4 (And.intro q1 (And.intro q2 q3))))
  clear hW2 hw3 hmap2 q8 q1 q2 q3 hmap3 q4 hB23 hB02
  refine (wpIn_wide (n := 3)).1 ?_
  refine Rng.range_any rfl (by omega) (gf := 41) (lb := #[.pointer (some ⟨Bl, 0, none⟩), .pointer (some ⟨Bp, 0, none⟩), .pointer (some ⟨Bm, 0, none⟩)]) rfl trivial (enters_of Tryd.func41 (by kernel_rfl) rfl) ?_
  intro r hfn hra hrb hrt hrp
  refine callsIn_wide.2 ?_
  obtain ⟨W4, hW4⟩ : ∃ W, W = (w3.alloc (.deferred (some []))).alloc (Rng.readyOf r) := ⟨_, rfl⟩
  rw [← hW4]
  obtain ⟨lr, hlr⟩ : ∃ n, n = w3.heap.size + 1 := ⟨_, rfl⟩
  obtain ⟨D, hD⟩ : ∃ n, n = w3.heap.size := ⟨_, rfl⟩
  rw [← hlr]
  have hB34 : Below w3.heap.size w3 W4 := by rw [hW4]; exact bal (bal (Below.refl _ _) _) _
  have hsz4 : W4.heap.size = w3.heap.size + 2 := by rw [hW4]; simp
  have u0 : W4.heap[lr]? = some (Rng.readyOf r) := by rw [hW4, hlr]; exact heap_alloc2_new w3 _ _
  have u1 : W4.heap[D]? = some (.deferred (some [])) := by rw [hW4, hD]; exact heap_alloc2_old w3 _ _
  have hord : w.heap.size ≤ bm ∧ bm < T8 ∧ T8 < Bl ∧ Bl < Bp ∧ Bp < Bm ∧ Bm < D ∧ D < lr := by omega
  have hJ0 : BefJ w T8 D lr bm Bl Bp Bm r A n c person mo R 0 W4 :=
    ⟨u0, u1, (hB34.block _ (by omega)).trans Q.out.2.1, ⟨_, ownsMap_below Q.out.1 hB34, Late.new⟩, (hB34.block _ (by omega)).trans Q.out.2.2.1, (hB34.block _ (by omega)).trans Q.out.2.2.2.1, (hB34.block _ (by omega)).trans Q.out.2.2.2.2, bgo hBw3 hB34, Nat.zero_le _, by omega⟩
  have HORD := Lib.hid hord
  have HDD := Lib.hid hD
  clear hbm hT8 hBl hBp hBm z0 z1 hW4 hlr hD u0 u1 hB34 hsz4 hord hBw3
  show Calls Tryd.prog 41 #[.func (.yield lr) #[] #[], .pointer (some ⟨Bl, 0, none⟩), .pointer (some ⟨Bp, 0, none⟩), .pointer (some ⟨Bm, 0, none⟩)] W4 _
  refine (cnt1_any lr 1 Bl Bp Bm (lr + 1) A n c ts hn (by unfold maxLen; omega) person mo hmo R hR Hwf.out W4 (BefJ w T8 D lr bm Bl Bp Bm r A n c person mo R) ?hD hJ0 ?hY).mono ?_
  case hD => exact fun k W hJ => ⟨hJ.l, hJ.p, hJ.m, HS.out.go hJ.bel, hJ.sz⟩
  case hY =>
    intro k W0 W5 x hx hJ hB
    clear hJ0
    have HJ := Lib.hid hJ
    have HB := Lib.hid hB
    obtain ⟨rcd, dfr, box, ⟨Dm, hown, hlate⟩, pl, pp, pm, bel, kle, sz⟩ := hJ
    obtain ⟨o1, o2, o3, o4, o5, o6, o7⟩ := HORD.out
    have hl3 : W5.heap[lr]? = some (Rng.readyOf r) := (hB.block _ (by omega)).trans rcd
    refine Rng.yield_at hl3 hra hrb (by rw [hrt, hrp]) (by rw [hrp]; rfl) hfn ?_
    have hkl : k < R.length := (List.getElem?_eq_some_iff.1 hx).1
    have htk := late_take_succ hx
    obtain ⟨acc, hacc⟩ : ∃ a, lateL (R.take k) = a := ⟨_, rfl⟩
    rw [hacc] at htk hlate
    have hxv := HRv.out x (List.mem_of_getElem? hx)
    obtain ⟨te, tp, tm, tg, tx⟩ := x
    dsimp only at hxv
    have hB5 := hB.size
    have p0 : W5.heap[T8]? = some (.cells #[.map (some bm)] 65 (0, 0)) := (hB.block _ (by omega)).trans box
    have hown5 := ownsMap_below hown hB
    have bel5 := bgo bel hB
    have Z := Lib.hid (And.intro hl3 (And.intro p0 (And.intro hown5 bel5)))
    have Hlate := Lib.hid hlate
    have Htk := Lib.hid htk
    have hte := hxv.2
    clear hl3 p0 hown5 bel5 rcd dfr box hown hlate htk pl pp pm bel hra hrb hrt hrp hx hxv hacc hB
    dsimp only
    gi_wp2
    refine ⟨(Below.heap_alloc _ _ _ (by omega)).trans Z.out.1, ?_⟩
    obtain ⟨bx, hbx⟩ : ∃ n, n = W5.heap.size := ⟨_, rfl⟩
    obtain ⟨V, hV⟩ : ∃ V, V = W5.alloc (.cells #[.string te, .string tp, .int .i64 tm, .int .i64 tg, .int .i64 tx] 25) := ⟨_, rfl⟩
    obtain ⟨W6, hW6⟩ : ∃ W, W = V.putObj lr (Rng.busyOf r) := ⟨_, rfl⟩
    rw [← hbx, ← hV, ← hW6]
    have hBV : Below W5.heap.size W5 V := by rw [hV]; exact bal (Below.refl _ _) _
    have hszV : V.heap.size = bx + 1 := by rw [hV, hbx]; simp
    have hsz6 : W6.heap.size = bx + 1 := by rw [hW6, ← hszV]; simp
    have gbx : V.heap[bx]? = some (.cells #[.string te, .string tp, .int .i64 tm, .int .i64 tg, .int .i64 tx] 25) := by rw [hV, hbx]; exact World.alloc_heap_new _ _
    have hoth : ∀ b, b ≠ lr → W6.heap[b]? = V.heap[b]? := fun b hb => by rw [hW6]; exact World.putObj_heap_other hb
    have hold : ∀ b, b < bx → b ≠ lr → W6.heap[b]? = W5.heap[b]? := fun b hb hl => (hoth b hl).trans (hBV.block b (by rw [← hbx]; exact hb))
    have hbx5 : lr < bx := by rw [hbx]; omega
    have g0 : W6.heap[lr]? = some (Rng.busyOf r) := by rw [hW6]; exact World.putObj_heap_same (by rw [hszV]; omega)
    have g1 : W6.heap[T8]? = some (.cells #[.map (some bm)] 65 (0, 0)) := (hold T8 (by omega) (by omega)).trans Z.out.2.1
    have g4 : W6.heap[bx]? = some (.cells #[.string te, .string tp, .int .i64 tm, .int .i64 tg, .int .i64 tx] 25) := (hoth bx (by omega)).trans gbx
    have bel6 : Below w.heap.size w W6 := by rw [hW6]; exact below_putObj (bgo Z.out.2.2.2 hBV) (by omega) (by omega) _
    have own6 : W6.ownsMap Tryd.prog 9 totR bm k Dm := ownsMap_block Z.out.2.2.1 (hold bm (by omega) (by omega))
    have c1 : W6.cell? ⟨T8, 0, none⟩ = some (.map (some bm)) := by rw [Lib.cell_of_heap g1]; rfl
    have b0 : W6.cell? ⟨bx, 0, none⟩ = some (.string te) := by rw [Lib.cell_of_heap g4]; rfl
    have b1 : W6.cell? ⟨bx, 1, none⟩ = some (.string tp) := by rw [Lib.cell_of_heap g4]; rfl
    have b2 : W6.cell? ⟨bx, 2, none⟩ = some (.int .i64 tm) := by rw [Lib.cell_of_heap g4]; rfl
    have b3 : W6.cell? ⟨bx, 3, none⟩ = some (.int .i64 tg) := by rw [Lib.cell_of_heap g4]; rfl
    have b4 : W6.cell? ⟨bx, 4, none⟩ = some (.int .i64 tx) := by rw [Lib.cell_of_heap g4]; rfl
    have hT8x : T8 ≠ bx := by omega
    have HN := Lib.hid (show lr < bx ∧ W5.heap.size = bx ∧ W6.heap.size = bx + 1 from ⟨hbx5, hbx.symm, hsz6⟩)
    have X := Lib.hid (And.intro g0 (And.intro hold bel6))
    have al1 : ∀ K : Obj, (W6.alloc K).cell? ⟨T8, 0, none⟩ = some (.map (some bm)) := fun K => by rw [Lib.cell_of_heap ((Below.heap_alloc _ _ _ (by omega)).trans g1)]; rfl
    have al0 : ∀ (K : Obj) (j : Nat), (W6.alloc K).cell? ⟨bx, j, none⟩ = W6.cell? ⟨bx, j, none⟩ := fun K j => World.cell?_of_block (Below.heap_alloc _ _ _ (show bx < W6.heap.size by omega))
    have al2 : ∀ (ue up : ByteArray) (um ug ux : Int), (W6.alloc (.cells #[.string ue, .string up, .int .i64 um, .int .i64 ug, .int .i64 ux] 25)).cell? ⟨W6.heap.size, 2, none⟩ = some (.int .i64 um) := fun ue up um ug ux => by rw [Lib.cell_of_heap (World.alloc_heap_new _ _)]; rfl
    have AL := Lib.hid (And.intro al1 (And.intro al0 al2))
    clear al1 al0 al2
    have Own6 := Lib.hid own6
    clear hV hW6 hbx hold hoth g0 g1 g4 bel6 gbx hBV hszV hsz6 hbx5
    -- the end of a round
    have fin : ∀ (K : Obj) (W8 : World), (W6.alloc K).grownBy W8 (some bm) → (∃ D', W8.ownsMap Tryd.prog 9 totR bm (k + 1) D' ∧ Late (lateL (R.take (k + 1))) D') →
        W8.heap[lr]? = some (Rng.busyOf r) ∧ ((Ending.returned (.bool true) = Ending.returned (.bool true) ∧ BefJ w T8 D lr bm Bl Bp Bm r A n c person mo R (k + 1) (W8.putObj lr (Rng.readyOf r))) ∧
          (∀ b, lr + 1 ≤ b → b < bx → (W8.putObj lr (Rng.readyOf r)).heap[b]? = W5.heap[b]?) ∧ bx ≤ (W8.putObj lr (Rng.readyOf r)).heap.size) := by
      intro K W8 hg hm
      obtain ⟨n1, n2, n3⟩ := HN.out
      rw [← n2]
      obtain ⟨g0, hold, bel6⟩ := X.out
      have far : ∀ b, b < W6.heap.size → b ≠ bm → W8.heap[b]? = W6.heap[b]? := fun b hb hne => (hg.block b (by simp; omega) (fun e => hne (Option.some.inj e))).trans (Below.heap_alloc _ _ _ hb)
      have hs8 : W6.heap.size + 1 ≤ W8.heap.size := by have := hg.size; simpa using this
      exact bef_round HORD.out HJ.out HB.out ((far lr (by omega) (by omega)).trans g0) (fun b h1 h2 h3 => (far b (by omega) h2).trans (hold b (by omega) h3)) (by omega) ((bel6.alloc bel6.size _).grown hg (by have := bel6.size; simp; omega) (fun b hb => by cases hb; exact o1)) hm hkl
    have Fin := Lib.hid fin
    clear fin
    have hkm : k < maxLen := by unfold maxLen; omega
    have hap : ∀ K : Obj, (W6.alloc K).ownsMap Tryd.prog 9 totR bm k Dm := fun K => own6.alloc K
    have Hap := Lib.hid hap
    clear hap own6
    cases hu : lastT te acc with
    | none =>
      have hst : lateL (R.take (k + 1)) = updT acc ⟨te, tp, tm, tg, tx⟩ := by
        rw [Htk.out]
        unfold stepT
        dsimp only
        rw [hu]
      have x1 := AL.out.1 (.cells #[.string ⟨#[]⟩, .string ⟨#[]⟩, .int .i64 0, .int .i64 0, .int .i64 0] 25)
      have x20 := (AL.out.2.1 (.cells #[.string ⟨#[]⟩, .string ⟨#[]⟩, .int .i64 0, .int .i64 0, .int .i64 0] 25) 0).trans b0
      have x21 := (AL.out.2.1 (.cells #[.string ⟨#[]⟩, .string ⟨#[]⟩, .int .i64 0, .int .i64 0, .int .i64 0] 25) 1).trans b1
      have x22 := (AL.out.2.1 (.cells #[.string ⟨#[]⟩, .string ⟨#[]⟩, .int .i64 0, .int .i64 0, .int .i64 0] 25) 2).trans b2
      have x23 := (AL.out.2.1 (.cells #[.string ⟨#[]⟩, .string ⟨#[]⟩, .int .i64 0, .int .i64 0, .int .i64 0] 25) 3).trans b3
      have x24 := (AL.out.2.1 (.cells #[.string ⟨#[]⟩, .string ⟨#[]⟩, .int .i64 0, .int .i64 0, .int .i64 0] 25) 4).trans b4
      have hlook := look_none te hte Own6.out Hlate.out hu
      obtain ⟨w8, hrun, ⟨D', hm1, hm2⟩, hg8⟩ := store_ok te tp tm tg tx hte hkm (Hap.out (.cells #[.string ⟨#[]⟩, .string ⟨#[]⟩, .int .i64 0, .int .i64 0, .int .i64 0] 25)) Hlate.out
      have Y := Lib.hid (Fin.out _ w8 hg8 ⟨D', hm1, hst ▸ hm2⟩)
      clear hm1 hm2 hg8 hst hu Hap hkm
      gi_wp2
      exact ⟨Y.out.1, ⟨rfl, Y.out.2.1.2⟩, Y.out.2.2.1, Y.out.2.2.2⟩
    | some u =>
      obtain ⟨ue, up, um, ug, ux⟩ := u
      have x1 := AL.out.1 (.cells #[.string ue, .string up, .int .i64 um, .int .i64 ug, .int .i64 ux] 25)
      have x20 := (AL.out.2.1 (.cells #[.string ue, .string up, .int .i64 um, .int .i64 ug, .int .i64 ux] 25) 0).trans b0
      have x21 := (AL.out.2.1 (.cells #[.string ue, .string up, .int .i64 um, .int .i64 ug, .int .i64 ux] 25) 1).trans b1
      have x22 := (AL.out.2.1 (.cells #[.string ue, .string up, .int .i64 um, .int .i64 ug, .int .i64 ux] 25) 2).trans b2
      have x23 := (AL.out.2.1 (.cells #[.string ue, .string up, .int .i64 um, .int .i64 ug, .int .i64 ux] 25) 3).trans b3
      have x24 := (AL.out.2.1 (.cells #[.string ue, .string up, .int .i64 um, .int .i64 ug, .int .i64 ux] 25) 4).trans b4
      have x3 := AL.out.2.2 ue up um ug ux
      have hlook := look_some te hte Own6.out Hlate.out ue up um ug ux hu
      by_cases hle : um ≤ tm
      · have hst : lateL (R.take (k + 1)) = updT acc ⟨te, tp, tm, tg, tx⟩ := by
          rw [Htk.out]
          unfold stepT
          dsimp only
          rw [hu]
          dsimp only
          rw [if_pos hle]
        obtain ⟨w8, hrun, ⟨D', hm1, hm2⟩, hg8⟩ := store_ok te tp tm tg tx hte hkm (Hap.out (.cells #[.string ue, .string up, .int .i64 um, .int .i64 ug, .int .i64 ux] 25)) Hlate.out
        have Y := Lib.hid (Fin.out _ w8 hg8 ⟨D', hm1, hst ▸ hm2⟩)
        clear hm1 hm2 hg8 hst hu Hap hkm
        gi_wp2
        exact ⟨Y.out.1, ⟨rfl, Y.out.2.1.2⟩, Y.out.2.2.1, Y.out.2.2.2⟩
      · have hst : lateL (R.take (k + 1)) = acc := by
          rw [Htk.out]
          unfold stepT
          dsimp only
          rw [hu]
          dsimp only
          rw [if_neg hle]
        have Y := Lib.hid (Fin.out (.cells #[.string ue, .string up, .int .i64 um, .int .i64 ug, .int .i64 ux] 25) _ ⟨rfl, rfl, rfl, Nat.le_refl _, fun _ _ _ => rfl⟩ ⟨Dm, (Hap.out _).mono (Nat.le_succ k), by rw [hst]; exact Hlate.out⟩)
        clear hst hu Hap hkm
        gi_wp2
        exact ⟨Y.out.1, ⟨rfl, Y.out.2.1.2⟩, Y.out.2.2.1, Y.out.2.2.2⟩
  rintro e W9 ⟨⟨v9, rfl⟩, W0, hB9, hJ⟩
  clear hJ0
  obtain ⟨o1, o2, o3, o4, o5, o6, o7⟩ := HORD.out
  obtain ⟨rcd, dfr, box, ⟨Dm, hown, hlate⟩, pl, pp, pm, bel, kle, sz⟩ := hJ
  rw [List.take_of_length_le (Nat.le_refl _)] at hlate
  have hs9 := hB9.size
  refine ⟨_, rfl, .inl ⟨(hB9.block lr (by omega)).trans rcd, ?_⟩⟩
  dsimp only
  obtain ⟨WA, hWA⟩ : ∃ W, W = W9.putObj lr (Rng.overOf r none) := ⟨_, rfl⟩
  rw [← hWA]
  have hoth : ∀ b, b < lr → WA.heap[b]? = W0.heap[b]? := fun b hb => by rw [hWA]; exact (World.putObj_heap_other (by omega)).trans (hB9.block b (by omega))
  have hsA : WA.heap.size = W9.heap.size := by rw [hWA]; simp
  have h1 : WA.heap[T8]? = some (.cells #[.map (some bm)] 65 (0, 0)) := (hoth T8 (by omega)).trans box
  have h4 : WA.heap[D]? = some (.deferred (some [])) := (hoth D (by omega)).trans dfr
  have belA : Below w.heap.size w WA := by rw [hWA]; exact below_putObj (bgo bel hB9) (by omega) (by omega) _
  have ownA : WA.ownsMap Tryd.prog 9 totR bm R.length Dm := ownsMap_block hown (hoth bm (by omega))
  have c1 : WA.cell? ⟨T8, 0, none⟩ = some (.map (some bm)) := by rw [Lib.cell_of_heap h1]; rfl
  have hLl : (lateL R).length ≤ 100 := by
    have := lateL_len R []
    unfold lateL
    simp at this
    omega
  have hLb : ∀ t ∈ lateL R, (-1000000000000 ≤ t.g ∧ t.g ≤ 1000000000000) ∧ (-1000000000000 ≤ t.x ∧ t.x ≤ 1000000000000) := by
    intro t ht
    rcases lateL_mem R [] ht with h | h
    · have := valid_out (HRv.out t h).1
      exact ⟨this.2.2.2.1, this.2.2.2.2⟩
    · cases h
  obtain ⟨Lt, hLt⟩ : ∃ x, lateL R = x := ⟨_, rfl⟩
  rw [hLt] at hlate hLl hLb
  have hG : sumA TotD.g (lateL R) = sumA TotD.g Lt := by rw [hLt]
  have hX : sumA TotD.x (lateL R) = sumA TotD.x Lt := by rw [hLt]
  have HG := Lib.hid hG
  have HX := Lib.hid hX
  clear hG hX
  clear hsA
  have h4' : D < WA.heap.size := (Array.getElem?_eq_some_iff.1 h4).1
  have X := Lib.hid (And.intro h4 (And.intro belA ownA))
  have Hlate := Lib.hid hlate
  have HLb := Lib.hid hLb
  have hDb : D ≠ bm := by omega
  have HD2 := HDD.out
  subst HD2
  clear hWA hoth h1 h4 belA ownA rcd dfr box hown hlate pl pp pm bel sz kle hra hrb hrt hrp hLb hLt
  gi_wp2
  go_wp2_with (first | (at_range; refine wpList_range_own _ rfl _ 65 rfl 9 25 lawS Tryd.underlying65 totR bm R.length Dm rfl X.out.2.2 ?_; intro w0 hrg0 hg0 hs0) | go_in)
  go_frame
  have st0 := sumN_start TotD.g Hlate.out
  have st1 := sumN_start TotD.x Hlate.out
  have hB0 : Below w.heap.size w w0 := X.out.2.1.grown hg0 X.out.2.1.size (fun _ hj => by cases hj)
  have j0 : w0.heap[w3.heap.size]? = some (.deferred (some [])) := (hg0.block _ h4' (by simp)).trans X.out.1
  have I0 := Lib.hid (And.intro hrg0 (And.intro hB0 j0))
  clear hrg0 hg0 hB0 j0
  go_loopw [12, 13] (fun g x wr => ∃ left cnt, wr.ranges Tryd.prog 9 totR bm WA.heap.size R.length Dm left cnt ∧ g = .int .i64 (sumN TotD.g left Lt) ∧ x = .int .i64 (sumN TotD.x left Lt) ∧ Below w.heap.size w wr ∧ wr.heap[w3.heap.size]? = some (.deferred (some []))) (fun _ _ wr => wr.rangeLeft bm WA.heap.size)
  case atStart => exact ⟨_, _, I0.out.1, by rw [st0], by rw [st1], I0.out.2.1, I0.out.2.2⟩
  case round =>
    obtain ⟨left, cnt, hrg, rfl, rfl, hBr, hdf⟩ := hrel
    have hg := sumN_le TotD.g left Lt (fun t ht => (HLb.out t ht).1)
    have hx := sumN_le TotD.x left Lt (fun t ht => (HLb.out t ht).2)
    go_wp2_with (first | (at_next; refine next_tot _ rfl _ rfl bm WA.heap.size R.length Dm left cnt Lt Hlate.out rfl hrg ?_ ?_) | go_in)
    · intro hc0 hl0
      rw [sumN_end TotD.g hl0, sumN_end TotD.x hl0]
      clear hg hx
      go_wp2
      refine ⟨by simp, .inl ⟨_, _, rfl, run_takeDeferred hdf, ?_⟩⟩
      refine ⟨.tuple #[.int .i64 (sumA TotD.g Lt), .int .i64 (sumA TotD.x Lt)], by simp [results, Tryd.results12, go_sem], by rw [HG.out, HX.out], below_putObj hBr hBr.size (by omega) _⟩
    · intro te tp tm tg tx w1 cnt1 hmem hleft hrg1 hlt hg1 hs1 hen
      have e1 := sumN_step TotD.g left _ hleft Lt Hlate.out.one hmem
      have e2 := sumN_step TotD.x left _ hleft Lt Hlate.out.one hmem
      dsimp only at e1 e2
      have hb1 := (HLb.out _ hmem).1
      have hb2 := (HLb.out _ hmem).2
      dsimp only at hb1 hb2
      obtain ⟨sg, hsg⟩ : ∃ q, sumN TotD.g left Lt = q := ⟨_, rfl⟩
      obtain ⟨sx, hsx⟩ : ∃ q, sumN TotD.x left Lt = q := ⟨_, rfl⟩
      rw [hsg] at hg e1
      rw [hsx] at hx e2
      rw [hsg, hsx]
      have hgo : -9223372036854775808 ≤ sg + tg ∧ sg + tg ≤ 9223372036854775807 := by omega
      have hxo : -9223372036854775808 ≤ sx + tx ∧ sx + tx ≤ 9223372036854775807 := by omega
      have E1 := Lib.hid e1
      have E2 := Lib.hid e2
      have hB1 : Below w.heap.size w w1 := hBr.grown hg1 hBr.size (fun j hj => by cases hj; have := X.out.2.1.size; omega)
      have hd1 : w1.heap[w3.heap.size]? = some (.deferred (some [])) := (hg1.block _ (Array.getElem?_eq_some_iff.1 hdf).1 (fun e => by injection e; omega)).trans hdf
      have K := Lib.hid (And.intro hrg1 (And.intro hB1 hd1))
      have Hrg := Lib.hid hrg
      clear hrg hrg1 hB1 hd1 hg1 hBr hdf e1 e2 hsg hsx hmem hleft
      go_wp2
      go_roundw
      case rel => exact ⟨_, cnt1, K.out.1.alloc _, by rw [E1.out], by rw [E2.out], bal K.out.2.1 _, (Below.heap_alloc _ _ _ (Array.getElem?_eq_some_iff.1 K.out.2.2).1).trans K.out.2.2⟩
      case measure => rw [(K.out.1.alloc _).left_eq, Hrg.out.left_eq]; omega
end Go.Proofs.YtpmakhfpdidleaaDoor
