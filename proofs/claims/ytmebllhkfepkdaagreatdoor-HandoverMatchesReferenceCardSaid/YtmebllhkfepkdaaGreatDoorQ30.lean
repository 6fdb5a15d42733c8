/- The reference's wrong (layer 29). The reference's Accept and Before (layer 29). -/
import Derived.Test.YtmebllhkfepkdaaGreatDoorQ29
import Derived.Deep.DeepCutAuto
import Derived.Deep.CutBlock
import Derived.IntWalk
namespace Go.Proofs.YtmebllhkfepkdaaGreatDoor
open Go.RowKit Go.Shelf
set_option linter.unusedVariables false
set_option linter.unusedSimpArgs false
set_option maxRecDepth 100000
attribute [-go_sem] run_equalIn_agg
attribute [local go_sem] eqTot
theorem any_take_succ {l : List (TotD × Int)} {f : TotD × Int → Bool} {k : Nat} {u : TotD × Int} (h : l[k]? = some u) : (l.take (k + 1)).any f = ((l.take k).any f || f u) := by
  rw [List.take_add_one, h, Option.toList_some, List.any_append]
  simp
def keyF (t : TotD) (i : Int) (u : TotD × Int) : Bool := decide (u.2 = i) && decide (u.1 ≠ t)
def twiF (t : TotD) (u : TotD × Int) : Bool := decide (u.1 ≠ t) && decide (u.1.e = t.e) && decide (u.1.p = t.p) && decide (u.1.m = t.m)
theorem wrongR_eq (l : List (TotD × Int)) (t : TotD) (i : Int) : wrongR l t i = if l.any (keyF t i) = true then 251 else if l.any (twiF t) = true then 5 else 0 := rfl
theorem any_true {l : List (TotD × Int)} {f : TotD × Int → Bool} {k : Nat} {u : TotD × Int} (h : l[k]? = some u) (hf : f u = true) : l.any f = true := List.any_eq_true.2 ⟨u, List.mem_of_getElem? h, hf⟩
theorem elV_cells {W : World} {b off : Nat} {es : List ElM} (hc : ∀ j u, (es.flatMap elV)[j]? = some u → W.cell? ⟨b, off + j, none⟩ = some u) {k : Nat} {x : ElM} (hx : es[k]? = some x) : ∀ j u, (elV x)[j]? = some u → j < 8 → W.cell? ⟨b, off + k * 8 + j, none⟩ = some u := by
  intro j u hu hj
  obtain ⟨hk, e⟩ := List.getElem?_eq_some_iff.1 hx
  have hget := flat_get elV 8 (fun _ => rfl) es k hk j hj
  rw [e] at hget
  rw [Nat.add_assoc]
  exact hc _ _ (hget.trans hu)
set_option maxHeartbeats 16000000 in
theorem rwrong_any (root : UInt64) (h : Int) (E : Option Addr) (n ce : Nat) (es : List ElM) (hn : es.length = n) (hnl : n ≤ 1000) (k : Nat) (hk : k < n) (xe xp : ByteArray) (xm xg xx xj : Int) (xA xB : Option Addr) (ac bc an bn : Nat) (hx : Hid (es[k]? = some ⟨⟨xe, xp, xm, xg, xx⟩, xj, xA, an, ac, xB, bn, bc⟩))
    (c : List UInt64) (p : Forks) (hcl : c.length = an) (hpl : p.length = bn) (han : an ≤ maxLen) (hbn : bn ≤ 100) (t : ByteArray) (ht : Hid (textT ⟨xe, xp, xm, xg, xx⟩ = t)) (d : UInt64) (hd : Hid (Dig.sum t.data.toList = d)) (ok : Bool) (hok : Hid (overB root h d xj c p = ok)) (r : Int) (hr : Hid (wrongE ((es.take k).map keyOf29) ⟨xe, xp, xm, xg, xx⟩ xj ok = r))
    (w : World) (hE : Sl w w.heap.size 8 E n (es.flatMap elV)) (hA : Sl w w.heap.size 1 xA an (u64V c)) (hB : Sl w w.heap.size 2 xB bn (forkV p)) (he : xe.size ≤ maxLen) (hp : xp.size ≤ maxLen) :
    Calls Tryz.prog 21 #[.int .u64 root.toNat, .int .i64 h, .slice E n ce, .int .i64 (k : Int)] w fun e w' => e = .returned (.int .i64 r) ∧ Below w.heap.size w w' := by
  have hk1 : (k : Int) < (n : Int) := by omega
  obtain ⟨eb, eo, rfl, heb, hec⟩ := hE.2 (by omega)
  have hcl8 := elV_cells hec hx.out
  have HE := Lib.hid hE
  have HA := Lib.hid hA
  have HB := Lib.hid hB
  have Hcl := Lib.hid hcl
  have Hpl := Lib.hid hpl
  obtain ⟨ks, hks⟩ : ∃ l, (es.take k).map keyOf29 = l := ⟨_, rfl⟩
  have hkl : ks.length = k := by rw [← hks, List.length_map, List.length_take]; omega
  have hkat : ∀ q, q < k → ∃ x, es[q]? = some x ∧ ks[q]? = some (x.t, x.j) := by
    intro q hq
    have hqe : q < es.length := by omega
    exact ⟨es[q], List.getElem?_eq_getElem hqe, by rw [← hks, List.getElem?_map, List.getElem?_take, if_pos hq, List.getElem?_eq_getElem hqe]; rfl⟩
  have hr2 := hr.out
  rw [hks] at hr2
  have Hr := Lib.hid hr2
  have Hkat := Lib.hid hkat
  have Hkl := Lib.hid hkl
  have HX := Lib.hid hcl8
  have u0 : w.cell? ⟨eb, eo + k * 8, none⟩ = some (.string xe) := hcl8 0 _ rfl (by decide)
  have u1 : w.cell? ⟨eb, eo + k * 8 + 1, none⟩ = some (.string xp) := hcl8 1 _ rfl (by decide)
  have u2 : w.cell? ⟨eb, eo + k * 8 + 2, none⟩ = some (.int .i64 xm) := hcl8 2 _ rfl (by decide)
  have u3 : w.cell? ⟨eb, eo + k * 8 + 3, none⟩ = some (.int .i64 xg) := hcl8 3 _ rfl (by decide)
  have u4 : w.cell? ⟨eb, eo + k * 8 + 4, none⟩ = some (.int .i64 xx) := hcl8 4 _ rfl (by decide)
  have u5 : w.cell? ⟨eb, eo + k * 8 + 5, none⟩ = some (.int .i64 xj) := hcl8 5 _ rfl (by decide)
  have u6 : w.cell? ⟨eb, eo + k * 8 + 6, none⟩ = some (.slice xA an ac) := hcl8 6 _ rfl (by decide)
  have u7 : w.cell? ⟨eb, eo + k * 8 + 7, none⟩ = some (.slice xB bn bc) := hcl8 7 _ rfl (by decide)
  clear hE hA hB hcl hpl hks hkl hkat hr hr2 hec hcl8
  go_enter Tryz.func21, Tryz.ntmps21
  go_upto_region 2 with fail
  clear u0 u1 u2 u3 u4 u5 u6 u7
  obtain ⟨V, hV⟩ : ∃ z, z = w.alloc (.cells #[.string xe, .string xp, .int .i64 xm, .int .i64 xg, .int .i64 xx, .int .i64 xj, .slice xA an ac, .slice xB bn bc] 33) := ⟨_, rfl⟩
  obtain ⟨X, hX⟩ : ∃ z, z = w.heap.size := ⟨_, rfl⟩
  rw [← hV]
  try rw [← hX]
  have gX : V.heap[X]? = some (.cells #[.string xe, .string xp, .int .i64 xm, .int .i64 xg, .int .i64 xx, .int .i64 xj, .slice xA an ac, .slice xB bn bc] 33) := by rw [hV, hX]; exact World.alloc_heap_new _ _
  have hBV : Below w.heap.size w V := by rw [hV]; exact bal (Below.refl _ _) _
  have hXw : w.heap.size ≤ X := by omega
  clear hV hX
  obtain ⟨bv, hbv⟩ : ∃ q, validTB ⟨xe, xp, xm, xg, xx⟩ = q := ⟨_, rfl⟩
  have Hbv := Lib.hid hbv
  have y0 : V.cell? ⟨X, 0, none⟩ = some (.string xe) := by rw [Lib.cell_of_heap gX]; rfl
  have y1 : V.cell? ⟨X, 1, none⟩ = some (.string xp) := by rw [Lib.cell_of_heap gX]; rfl
  have y2 : V.cell? ⟨X, 2, none⟩ = some (.int .i64 xm) := by rw [Lib.cell_of_heap gX]; rfl
  have y3 : V.cell? ⟨X, 3, none⟩ = some (.int .i64 xg) := by rw [Lib.cell_of_heap gX]; rfl
  have y4 : V.cell? ⟨X, 4, none⟩ = some (.int .i64 xx) := by rw [Lib.cell_of_heap gX]; rfl
  go_wp2_with fail
  refine (rvalid29_any xe xp xm xg xx bv Hbv V he hp).mono ?_
  rintro e w2 ⟨rfl, hB2⟩
  have g2 := (hB2.block _ (Array.getElem?_eq_some_iff.1 gX).1).trans gX
  have hBw2 := bgo hBV hB2
  clear y0 y1 y2 y3 y4 gX
  cases bv with
  | false =>
    have hr0 : 1 = r := by have := Hr.out; unfold wrongE at this; rw [hbv] at this; exact this
    subst hr0
    clear hbv
    go_wp2_with fail
    go_ret
    exact ⟨rfl, hBw2⟩
  | true =>
    have hts : t.size ≤ maxLen := by
      rw [← ht.out]
      unfold textT
      rw [if_pos hbv]
      exact Nat.le_trans (text_size hbv) (by decide)
    have hr1 : (if ok = true then wrongR ks ⟨xe, xp, xm, xg, xx⟩ xj else 252) = r := by have := Hr.out; unfold wrongE at this; rw [if_pos hbv, wrongL_ref] at this; exact this
    have Hr1 := Lib.hid hr1
    clear hr1 hbv
    go_upto_region 5 with fail
    have GX := Lib.hid (show w2.drew.heap[X]? = some (.cells #[.string xe, .string xp, .int .i64 xm, .int .i64 xg, .int .i64 xx, .int .i64 xj, .slice xA an ac, .slice xB bn bc] 33) from g2)
    have hXl : X < w2.drew.heap.size := (Array.getElem?_eq_some_iff.1 g2).1
    go_cut [11] (fun v wc => v = .bool ok ∧ Below w2.heap.size w2 wc)
    case first =>
      refine wp_region_noPanic ?_
      refine wp_region_held_drew (S := fun W' => W'.heap[X]? = some (.cells #[.string xe, .string xp, .int .i64 xm, .int .i64 xg, .int .i64 xx, .int .i64 xj, .slice xA an ac, .slice xB bn bc] 33)) (by kernel_rfl) GX.out (fun hHeld => ?_)
      refine wpAnyH_take (i := 0) (v := ?_) rfl (by kernel_rfl) (by kernel_rfl) (by kernel_rfl) (fun _ _ _ h => h) (Or.inl ⟨by kernel_rfl, ?_⟩) (by assumption) ?_
      rotate_left
      · intro w hSw
        (try dsimp only at hSw)
        go_simp
        first | done | with_reducible rfl
      simp only [List.getElem_toArray, List.getElem_cons_zero, List.getElem_cons_succ, Act.put, List.setIfInBounds_toArray, List.set_cons_zero, List.set_cons_succ]
      refine wpAnyH_take (i := 1) (v := ?_) rfl (by kernel_rfl) (by kernel_rfl) (by kernel_rfl) (fun _ _ _ h => h) (Or.inl ⟨by kernel_rfl, ?_⟩) (by assumption) ?_
      rotate_left
      · intro w hSw
        (try dsimp only at hSw)
        go_simp
        first | done | with_reducible rfl
      simp only [List.getElem_toArray, List.getElem_cons_zero, List.getElem_cons_succ, Act.put, List.setIfInBounds_toArray, List.set_cons_zero, List.set_cons_succ]
      refine wpAnyH_take (i := 2) (v := ?_) rfl (by kernel_rfl) (by kernel_rfl) (by kernel_rfl) (fun _ _ _ h => h) (Or.inl ⟨by kernel_rfl, ?_⟩) (by assumption) ?_
      rotate_left
      · intro w hSw
        (try dsimp only at hSw)
        go_simp
        first | done | with_reducible rfl
      simp only [List.getElem_toArray, List.getElem_cons_zero, List.getElem_cons_succ, Act.put, List.setIfInBounds_toArray, List.set_cons_zero, List.set_cons_succ]
      refine wpAnyH_take (i := 3) (v := ?_) rfl (by kernel_rfl) (by kernel_rfl) (by kernel_rfl) (fun _ _ _ h => h) (Or.inl ⟨by kernel_rfl, ?_⟩) (by assumption) ?_
      rotate_left
      · intro w hSw
        (try dsimp only at hSw)
        have z0 : w.cell? ⟨X, 0, none⟩ = some (.string xe) := by rw [Lib.cell_of_heap hSw]; rfl
        have z1 : w.cell? ⟨X, 1, none⟩ = some (.string xp) := by rw [Lib.cell_of_heap hSw]; rfl
        have z2 : w.cell? ⟨X, 2, none⟩ = some (.int .i64 xm) := by rw [Lib.cell_of_heap hSw]; rfl
        have z3 : w.cell? ⟨X, 3, none⟩ = some (.int .i64 xg) := by rw [Lib.cell_of_heap hSw]; rfl
        have z4 : w.cell? ⟨X, 4, none⟩ = some (.int .i64 xx) := by rw [Lib.cell_of_heap hSw]; rfl
        clear hSw
        go_simp
        first | done | with_reducible rfl
      simp only [List.getElem_toArray, List.getElem_cons_zero, List.getElem_cons_succ, Act.put, List.setIfInBounds_toArray, List.set_cons_zero, List.set_cons_succ]
      refine wpAnyH_take (i := 5) (v := ?_) rfl (by kernel_rfl) (by kernel_rfl) (by kernel_rfl) (fun _ _ _ h => h) (Or.inl ⟨by kernel_rfl, ?_⟩) (by assumption) ?_
      rotate_left
      · intro w hSw
        (try dsimp only at hSw)
        go_simp
        first | done | with_reducible rfl
      simp only [List.getElem_toArray, List.getElem_cons_zero, List.getElem_cons_succ, Act.put, List.setIfInBounds_toArray, List.set_cons_zero, List.set_cons_succ]
      refine wpAnyH_take (i := 6) (v := ?_) rfl (by kernel_rfl) (by kernel_rfl) (by kernel_rfl) (fun _ _ _ h => h) (Or.inl ⟨by kernel_rfl, ?_⟩) (by assumption) ?_
      rotate_left
      · intro w hSw
        (try dsimp only at hSw)
        have z5 : w.cell? ⟨X, 5, none⟩ = some (.int .i64 xj) := by rw [Lib.cell_of_heap hSw]; rfl
        have z6 : w.cell? ⟨X, 6, none⟩ = some (.slice xA an ac) := by rw [Lib.cell_of_heap hSw]; rfl
        have z7 : w.cell? ⟨X, 7, none⟩ = some (.slice xB bn bc) := by rw [Lib.cell_of_heap hSw]; rfl
        clear hSw
        go_simp
        first | done | with_reducible rfl
      simp only [List.getElem_toArray, List.getElem_cons_zero, List.getElem_cons_succ, Act.put, List.setIfInBounds_toArray, List.set_cons_zero, List.set_cons_succ]
      refine wpAnyH_ready (rs := [4]) (by kernel_rfl) (by simp) ?_
      refine AllReadyH.cons rfl (fun K hK => ?_) ?_
      · simp only [List.getElem_toArray, List.getElem_cons_zero, List.getElem_cons_succ]
        go_simp
        (with_reducible refine (rtext29_any xe xp xm xg xx t ht w2.drew he hp).mono ?_)
        rintro e wt ⟨rfl, hBt⟩
        dsimp only
        have belt := bgo ((Below.refl w2.heap.size w2).drew) hBt
        refine hK.out _ wt ((belt.block _ hXl).trans g2) (fun hHeld => ?_)
        clear hK K
        try simp only [List.getElem_toArray, List.getElem_cons_zero, List.getElem_cons_succ, Act.put, List.setIfInBounds_toArray, List.set_cons_zero, List.set_cons_succ]
        refine wpAnyH_ready (rs := [7]) (by kernel_rfl) (by simp) ?_
        refine AllReadyH.cons rfl (fun K hK => ?_) ?_
        · simp only [List.getElem_toArray, List.getElem_cons_zero, List.getElem_cons_succ]
          go_simp
          (with_reducible refine (rover_at root h t d hd hts xj xA xB ac bc an bn c p Hcl.out Hpl.out han hbn ok hok wt (HA.out.go (bgo hBw2 belt)) (HB.out.go (bgo hBw2 belt))).mono ?_)
          rintro e wv ⟨rfl, hBv⟩
          dsimp only
          have belv := bgo belt hBv
          refine hK.out _ wv ((belv.block _ hXl).trans g2) (fun hHeld => ?_)
          clear hK K
          try simp only [List.getElem_toArray, List.getElem_cons_zero, List.getElem_cons_succ, Act.put, List.setIfInBounds_toArray, List.set_cons_zero, List.set_cons_succ]
          refine wpAnyH_take (i := 8) (v := ?_) rfl (by kernel_rfl) (by kernel_rfl) (by kernel_rfl) (fun _ _ _ h => h) (Or.inl ⟨by kernel_rfl, ?_⟩) (by assumption) ?_
          rotate_left
          · intro w hSw
            (try dsimp only at hSw)
            go_simp
            first | done | with_reducible rfl
          simp only [List.getElem_toArray, List.getElem_cons_zero, List.getElem_cons_succ, Act.put, List.setIfInBounds_toArray, List.set_cons_zero, List.set_cons_succ]
          refine wpAnyH_done (by kernel_rfl) ?_ _
          dsimp only [NoPanic]
          clear hHeld
          go_wp2_with fail
          go_meet
          exact ⟨rfl, belv⟩
        exact AllReadyH.nil
      exact AllReadyH.nil
    case rest =>
      obtain ⟨rfl, hBc⟩ := hcut
      obtain ⟨w5, hw5⟩ : ∃ z, z = wc := ⟨_, rfl⟩
      subst hw5
      have g5 := (hBc.block _ hXl).trans g2
      have hBw5 := bgo hBw2 hBc
      clear hBc
      cases ok with
      | false =>
        have hr0 : 252 = r := by have := Hr1.out; rw [if_neg (by decide)] at this; exact this
        subst hr0
        go_wp2_with fail
        go_ret
        exact ⟨rfl, hBw5⟩
      | true =>
        have hr0 : wrongR ks ⟨xe, xp, xm, xg, xx⟩ xj = r := by have := Hr1.out; rw [if_pos rfl] at this; exact this
        rw [wrongR_eq] at hr0
        have Hr0 := Lib.hid hr0
        have G5 := Lib.hid g5
        have HBw5 := Lib.hid hBw5
        clear hr0 Hr1
        go_wp2_with fail
        go_loopw [12] (fun i wr => ∃ q : Nat, q ≤ k ∧ i = .int .i64 (q : Int) ∧ (ks.take q).any (keyF ⟨xe, xp, xm, xg, xx⟩ xj) = false ∧ Below w5.heap.size w5 wr) (fun i _ => k - (intOf i).toNat)
        case atStart => exact ⟨0, Nat.zero_le _, rfl, rfl, Below.refl _ _⟩
        case round =>
          obtain ⟨q, hq, rfl, hany, hBr⟩ := hrel
          by_cases hlt : q < k
          · have hlt' : (q : Int) < (k : Int) := by omega
            have hqn : (q : Int) < (n : Int) := by omega
            obtain ⟨y, hy, hky⟩ := Hkat.out q hlt
            have hstep := any_take_succ (f := keyF ⟨xe, xp, xm, xg, xx⟩ xj) hky
            rw [hany, Bool.false_or] at hstep
            obtain ⟨⟨ye, yp, ym, yg, yx⟩, yj, yA, yan, yac, yB, ybn, ybc⟩ := y
            dsimp only at hstep hky
            obtain ⟨_, _, e1, heb1, hec1⟩ := (HE.out.go (bgo hBw5 hBr)).2 (by omega)
            injection e1 with e1; injection e1 with e1 e2; subst e1 e2
            have hyc := elV_cells hec1 hy
            have v0 : wr.cell? ⟨eb, eo + q * 8, none⟩ = some (.string ye) := hyc 0 _ rfl (by decide)
            have v1 : wr.cell? ⟨eb, eo + q * 8 + 1, none⟩ = some (.string yp) := hyc 1 _ rfl (by decide)
            have v2 : wr.cell? ⟨eb, eo + q * 8 + 2, none⟩ = some (.int .i64 ym) := hyc 2 _ rfl (by decide)
            have v3 : wr.cell? ⟨eb, eo + q * 8 + 3, none⟩ = some (.int .i64 yg) := hyc 3 _ rfl (by decide)
            have v4 : wr.cell? ⟨eb, eo + q * 8 + 4, none⟩ = some (.int .i64 yx) := hyc 4 _ rfl (by decide)
            have v5 : wr.cell? ⟨eb, eo + q * 8 + 5, none⟩ = some (.int .i64 yj) := hyc 5 _ rfl (by decide)
            have gr := (hBr.block _ (Array.getElem?_eq_some_iff.1 G5.out).1).trans G5.out
            have x0 : wr.cell? ⟨X, 0, none⟩ = some (.string xe) := by rw [Lib.cell_of_heap gr]; rfl
            have x1 : wr.cell? ⟨X, 1, none⟩ = some (.string xp) := by rw [Lib.cell_of_heap gr]; rfl
            have x2 : wr.cell? ⟨X, 2, none⟩ = some (.int .i64 xm) := by rw [Lib.cell_of_heap gr]; rfl
            have x3 : wr.cell? ⟨X, 3, none⟩ = some (.int .i64 xg) := by rw [Lib.cell_of_heap gr]; rfl
            have x4 : wr.cell? ⟨X, 4, none⟩ = some (.int .i64 xx) := by rw [Lib.cell_of_heap gr]; rfl
            have x5 : wr.cell? ⟨X, 5, none⟩ = some (.int .i64 xj) := by rw [Lib.cell_of_heap gr]; rfl
            clear hec1 hyc gr hy
            by_cases hj : yj = xj
            · have hj1 : (yj == xj) = true := beq_iff_eq.2 hj
              have Hj := Lib.hid hj
              by_cases ht2 : (⟨ye, yp, ym, yg, yx⟩ : TotD) = ⟨xe, xp, xm, xg, xx⟩
              · have hte : totEq ye yp ym yg yx xe xp xm xg xx = true := decide_eq_true ht2
                have Hs := Lib.hid (show (ks.take (q + 1)).any (keyF ⟨xe, xp, xm, xg, xx⟩ xj) = false by rw [hstep]; unfold keyF; simp [ht2])
                clear hstep hky ht2 hj
                go_wp2_with fail
                go_quiet (fail)
                go_wp2_with fail
                go_roundw
                case rel => exact ⟨q + 1, by omega, by go_num, Hs.out, below_drewN hBr _⟩
                case measure => simp [intOf]; omega
              · have hte : totEq ye yp ym yg yx xe xp xm xg xx = false := decide_eq_false ht2
                have hr2 : 251 = r := by
                  rw [← Hr0.out, if_pos (any_true hky (by unfold keyF; simp [hj, ht2]))]
                subst hr2
                clear hstep hky ht2 hj
                go_wp2_with fail
                go_quiet (fail)
                go_wp2_with fail
                go_ret
                exact ⟨rfl, bgo hBw5 (below_drewN hBr _)⟩
            · have hj1 : (yj == xj) = false := beq_eq_false_iff_ne.2 hj
              have Hs := Lib.hid (show (ks.take (q + 1)).any (keyF ⟨xe, xp, xm, xg, xx⟩ xj) = false by rw [hstep]; unfold keyF; simp [hj])
              clear hstep hky hj
              go_wp2_with fail
              go_quiet (fail)
              go_wp2_with fail
              go_roundw
              case rel => exact ⟨q + 1, by omega, by go_num, Hs.out, below_drewN hBr _⟩
              case measure => simp [intOf]; omega
          · obtain rfl : k = q := by omega
            have hlt' : ¬ (k : Int) < (k : Int) := by omega
            have hall : ks.any (keyF ⟨xe, xp, xm, xg, xx⟩ xj) = false := by rwa [List.take_of_length_le (by rw [Hkl.out]; exact Nat.le_refl _)] at hany
            have Hr2 := Lib.hid (show (if ks.any (twiF ⟨xe, xp, xm, xg, xx⟩) = true then 5 else 0) = r by rw [← Hr0.out, hall, if_neg (show ¬ false = true by decide)])
            obtain ⟨w6, hw6⟩ : ∃ z, z = wr := ⟨_, rfl⟩
            subst hw6
            have hB6 := bgo hBw5 hBr
            have G6 := Lib.hid ((hBr.block _ (Array.getElem?_eq_some_iff.1 G5.out).1).trans G5.out)
            clear hall hany hBr
            go_wp2_with fail
            go_loopw [13] (fun i wr => ∃ q : Nat, q ≤ k ∧ i = .int .i64 (q : Int) ∧ (ks.take q).any (twiF ⟨xe, xp, xm, xg, xx⟩) = false ∧ Below w6.heap.size w6 wr) (fun i _ => k - (intOf i).toNat)
            case atStart => exact ⟨0, Nat.zero_le _, rfl, rfl, Below.refl _ _⟩
            case round =>
              obtain ⟨q, hq, rfl, hany, hBr⟩ := hrel
              by_cases hlt : q < k
              · have hlt' : (q : Int) < (k : Int) := by omega
                have hqn : (q : Int) < (n : Int) := by omega
                obtain ⟨y, hy, hky⟩ := Hkat.out q hlt
                have hstep := any_take_succ (f := twiF ⟨xe, xp, xm, xg, xx⟩) hky
                rw [hany, Bool.false_or] at hstep
                obtain ⟨⟨ye, yp, ym, yg, yx⟩, yj, yA, yan, yac, yB, ybn, ybc⟩ := y
                dsimp only at hstep hky
                obtain ⟨_, _, e1, heb1, hec1⟩ := (HE.out.go (bgo hB6 hBr)).2 (by omega)
                injection e1 with e1; injection e1 with e1 e2; subst e1 e2
                have hyc := elV_cells hec1 hy
                have v0 : wr.cell? ⟨eb, eo + q * 8, none⟩ = some (.string ye) := hyc 0 _ rfl (by decide)
                have v1 : wr.cell? ⟨eb, eo + q * 8 + 1, none⟩ = some (.string yp) := hyc 1 _ rfl (by decide)
                have v2 : wr.cell? ⟨eb, eo + q * 8 + 2, none⟩ = some (.int .i64 ym) := hyc 2 _ rfl (by decide)
                have v3 : wr.cell? ⟨eb, eo + q * 8 + 3, none⟩ = some (.int .i64 yg) := hyc 3 _ rfl (by decide)
                have v4 : wr.cell? ⟨eb, eo + q * 8 + 4, none⟩ = some (.int .i64 yx) := hyc 4 _ rfl (by decide)
                have gr := (hBr.block _ (Array.getElem?_eq_some_iff.1 G6.out).1).trans G6.out
                clear hec1 hyc hy
                go_upto_region 17 with fail
                clear v0 v1 v2 v3 v4
                obtain ⟨V7, hV7⟩ : ∃ z, z = wr.alloc (.cells #[.string ye, .string yp, .int .i64 ym, .int .i64 yg, .int .i64 yx] 25) := ⟨_, rfl⟩
                obtain ⟨Y, hY⟩ : ∃ z, z = wr.heap.size := ⟨_, rfl⟩
                rw [← hV7]
                try rw [← hY]
                have gY : V7.heap[Y]? = some (.cells #[.string ye, .string yp, .int .i64 ym, .int .i64 yg, .int .i64 yx] 25) := by rw [hV7, hY]; exact World.alloc_heap_new _ _
                have hB7 : Below wr.heap.size wr V7 := by rw [hV7]; exact bal (Below.refl _ _) _
                have g7 := (hB7.block _ (Array.getElem?_eq_some_iff.1 gr).1).trans gr
                have hB67 := bgo hBr hB7
                clear hV7 hY gr
                have x0 : V7.cell? ⟨X, 0, none⟩ = some (.string xe) := by rw [Lib.cell_of_heap g7]; rfl
                have x1 : V7.cell? ⟨X, 1, none⟩ = some (.string xp) := by rw [Lib.cell_of_heap g7]; rfl
                have x2 : V7.cell? ⟨X, 2, none⟩ = some (.int .i64 xm) := by rw [Lib.cell_of_heap g7]; rfl
                have x3 : V7.cell? ⟨X, 3, none⟩ = some (.int .i64 xg) := by rw [Lib.cell_of_heap g7]; rfl
                have x4 : V7.cell? ⟨X, 4, none⟩ = some (.int .i64 xx) := by rw [Lib.cell_of_heap g7]; rfl
                have y0 : V7.cell? ⟨Y, 0, none⟩ = some (.string ye) := by rw [Lib.cell_of_heap gY]; rfl
                have y1 : V7.cell? ⟨Y, 1, none⟩ = some (.string yp) := by rw [Lib.cell_of_heap gY]; rfl
                have y2 : V7.cell? ⟨Y, 2, none⟩ = some (.int .i64 ym) := by rw [Lib.cell_of_heap gY]; rfl
                have y3 : V7.cell? ⟨Y, 3, none⟩ = some (.int .i64 yg) := by rw [Lib.cell_of_heap gY]; rfl
                have y4 : V7.cell? ⟨Y, 4, none⟩ = some (.int .i64 yx) := by rw [Lib.cell_of_heap gY]; rfl
                clear g7 gY hB7
                by_cases ht2 : (⟨ye, yp, ym, yg, yx⟩ : TotD) = ⟨xe, xp, xm, xg, xx⟩
                · have hte : totEq ye yp ym yg yx xe xp xm xg xx = true := decide_eq_true ht2
                  have Hs := Lib.hid (show (ks.take (q + 1)).any (twiF ⟨xe, xp, xm, xg, xx⟩) = false by rw [hstep]; unfold twiF; simp [ht2])
                  clear hstep hky ht2
                  go_wp2_with fail
                  go_roundw
                  case rel => exact ⟨q + 1, by omega, by go_num, Hs.out, hB67⟩
                  case measure => simp [intOf]; omega
                · have hte : totEq ye yp ym yg yx xe xp xm xg xx = false := decide_eq_false ht2
                  by_cases h1 : ye = xe
                  · have f1 : (ye.toList == xe.toList) = true := str_eqs h1
                    by_cases h2 : yp = xp
                    · have f2 : (yp.toList == xp.toList) = true := str_eqs h2
                      by_cases h3 : ym = xm
                      · have f3 : (ym == xm) = true := beq_iff_eq.2 h3
                        have hr2 : 5 = r := by
                          rw [← Hr2.out, if_pos (any_true hky (by unfold twiF; simp only [decide_eq_true ht2, decide_eq_true h1, decide_eq_true h2, decide_eq_true h3]; simp))]
                        subst hr2
                        clear hstep hky ht2 h1 h2 h3
                        go_wp2_with fail
                        go_ret
                        exact ⟨rfl, bgo hB6 hB67⟩
                      · have f3 : (ym == xm) = false := beq_eq_false_iff_ne.2 h3
                        have Hs := Lib.hid (show (ks.take (q + 1)).any (twiF ⟨xe, xp, xm, xg, xx⟩) = false by rw [hstep]; unfold twiF; simp [h3])
                        clear hstep hky ht2 h1 h2 h3
                        go_wp2_with fail
                        go_roundw
                        case rel => exact ⟨q + 1, by omega, by go_num, Hs.out, hB67⟩
                        case measure => simp [intOf]; omega
                    · have f2 : (yp.toList == xp.toList) = false := str_nes h2
                      have Hs := Lib.hid (show (ks.take (q + 1)).any (twiF ⟨xe, xp, xm, xg, xx⟩) = false by rw [hstep]; unfold twiF; simp [h2])
                      clear hstep hky ht2 h1 h2
                      go_wp2_with fail
                      go_roundw
                      case rel => exact ⟨q + 1, by omega, by go_num, Hs.out, hB67⟩
                      case measure => simp [intOf]; omega
                  · have f1 : (ye.toList == xe.toList) = false := str_nes h1
                    have Hs := Lib.hid (show (ks.take (q + 1)).any (twiF ⟨xe, xp, xm, xg, xx⟩) = false by rw [hstep]; unfold twiF; simp [h1])
                    clear hstep hky ht2 h1
                    go_wp2_with fail
                    go_roundw
                    case rel => exact ⟨q + 1, by omega, by go_num, Hs.out, hB67⟩
                    case measure => simp [intOf]; omega
              · obtain rfl : k = q := by omega
                have hlt' : ¬ (k : Int) < (k : Int) := by omega
                have hr2 : 0 = r := by
                  rw [← Hr2.out]
                  rw [List.take_of_length_le (by rw [Hkl.out]; exact Nat.le_refl _)] at hany
                  rw [hany, if_neg (show ¬ false = true by decide)]
                subst hr2
                go_wp2_with fail
                go_ret
                exact ⟨rfl, bgo hB6 hBr⟩
end Go.Proofs.YtmebllhkfepkdaaGreatDoor
namespace Go.Proofs.YtmebllhkfepkdaaGreatDoor
open Go.RowKit Go.Shelf
set_option linter.unusedVariables false
set_option linter.unusedSimpArgs false
set_option maxRecDepth 100000
attribute [-go_sem] run_equalIn_agg
attribute [local go_sem] eqTot
/-- The totals that Accept has kept are those of the elements so far. -/
def AccM (pre : List ElM) (acc : List TotD) : Prop := ∀ t, t ∈ acc ↔ t ∈ pre.map (·.t)
theorem AccM.new : AccM [] [] := fun t => Iff.rfl
theorem AccM.next {pre : List ElM} {acc : List TotD} (h : AccM pre acc) (x : ElM) : AccM (pre ++ [x]) (if x.t ∈ acc then acc else acc ++ [x.t]) := by
  intro t
  rw [List.map_append, List.mem_append]
  split
  · rename_i hx
    rw [h t]
    constructor
    · exact .inl
    · rintro (k | k)
      · exact k
      · rw [List.mem_singleton.1 k]; exact (h _).1 hx
  · rw [List.mem_append, h t]
    exact Iff.rfl
theorem seen_succ {l : List ElM} {k : Nat} {u : ElM} (t : TotD) (h : l[k]? = some u) : (l.take (k + 1)).any (fun y => decide (y.t = t)) = ((l.take k).any (fun y => decide (y.t = t)) || decide (u.t = t)) := by
  rw [List.take_add_one, h, Option.toList_some, List.any_append]
  simp
set_option maxHeartbeats 16000000 in
theorem raccept_any (root : UInt64) (h : Int) (E : Option Addr) (ce n : Nat) (es : List ElM) (hn : es.length = n) (okF : ElM → Bool) (r : Int) (T : List TotD) (hr : Hid (accE okF [] es [] = (r, T))) (w : World) (hE : Sl w w.heap.size 8 E n (es.flatMap elV)) (hel : ∀ x ∈ es, ElOk w root h okF x) (hbn : ∀ x ∈ es, x.bn ≤ 100) (hk64 : n ≤ 64) :
    Calls Tryz.prog 8 #[.int .u64 root.toNat, .int .i64 h, .slice E n ce] w fun e w' => ∃ v, e = .returned (.tuple #[v, .int .i64 r]) ∧ w'.ownsRow w.heap.size 25 5 v T.length (T.flatMap totL5) ∧ Below w.heap.size w w' := by
  have HE := Lib.hid hE
  have Hel := Lib.hid hel
  have Hbn := Lib.hid hbn
  have Hn := Lib.hid hn
  have hn64 : ¬ (64 : Int) < (n : Int) := by omega
  obtain ⟨j0, hj0, hy0, hy1, hy2⟩ := info_parts info_tot
  have hst : Hid (accE okF (es.take 0) (es.drop 0) [] = (r, T)) := Lib.hid hr.out
  clear hE hel hr hbn hn
  go_enter Tryz.func8, Tryz.ntmps8
  go_wp2_with fail
  go_loopw [8, 9] (fun v ix wr => ∃ k : Nat, k ≤ n ∧ ix = .int .i64 (k : Int) ∧ ∃ acc : List TotD, acc.length ≤ k ∧ wr.ownsRow w.heap.size 25 5 v acc.length (acc.flatMap totL5) ∧ AccM (es.take k) acc ∧ accE okF (es.take k) (es.drop k) acc = (r, T) ∧ Below w.heap.size w wr) (fun _ ix _ => n - (intOf ix).toNat)
  case atStart => exact ⟨0, Nat.zero_le _, rfl, [], Nat.le_refl _, ⟨rfl, .inl ⟨rfl, rfl⟩⟩, AccM.new, hst.out, Below.refl _ _⟩
  case round =>
    obtain ⟨k, hk, rfl, acc, hal, hown, hM, hacc, hBr⟩ := hrel
    by_cases hlt : k < n
    · have hlt' : (k : Int) < (n : Int) := by omega
      have hkl : k < es.length := by rw [Hn.out]; exact hlt
      obtain ⟨x, hx⟩ : ∃ x, es[k] = x := ⟨_, rfl⟩
      have hxs : es[k]? = some x := by rw [List.getElem?_eq_getElem hkl, hx]
      have hdr : es.drop k = x :: es.drop (k + 1) := by rw [List.drop_eq_getElem_cons hkl, hx]
      have htk : es.take (k + 1) = es.take k ++ [x] := by rw [List.take_succ_eq_append_getElem hkl, hx]
      have hxm : x ∈ es := by rw [← hx]; exact List.getElem_mem hkl
      have hxe := (Hel.out x hxm).go hBr
      have hxb := Hbn.out x hxm
      have hM2 := hM.next x
      rw [← htk] at hM2
      rw [hdr] at hacc
      unfold accE at hacc
      rw [← htk] at hacc
      obtain ⟨⟨xe, xp, xm, xg, xx⟩, xj, xA, an, ac, xB, bn, bc⟩ := x
      obtain ⟨c, p, c1, c2, c3, c4, c5, c6, c7⟩ := hxe
      dsimp only at c1 c2 c3 c4 c5 c6 hacc hM2 hxb
      obtain ⟨e0, he0⟩ : ∃ v, okE okF (es.take k) ⟨⟨xe, xp, xm, xg, xx⟩, xj, xA, an, ac, xB, bn, bc⟩ = v := ⟨_, rfl⟩
      rw [he0] at hacc
      unfold okE at he0
      dsimp only at he0
      obtain ⟨okb, hokb⟩ : ∃ v, okF ⟨⟨xe, xp, xm, xg, xx⟩, xj, xA, an, ac, xB, bn, bc⟩ = v := ⟨_, rfl⟩
      rw [hokb] at he0 c6
      have hEr := HE.out.go hBr
      obtain ⟨eb, eo, rfl, heb, hec⟩ := hEr.2 (by omega)
      have hwz : xe.size ≤ maxLen ∧ xp.size ≤ maxLen := TotWf.sz c7
      have Hacc := Lib.hid hacc
      have Hown := Lib.hid hown
      have HM := Lib.hid hM
      have HM2 := Lib.hid hM2
      have Hxs := Lib.hid hxs
      have Hxc := Lib.hid (And.intro hec hxs)
      have HC := Lib.hid (And.intro hEr (And.intro c4 c5))
      have He0 := Lib.hid he0
      have H6 := Lib.hid c6
      clear hacc hown hM hM2 hx hxs hdr htk hxm hokb hec hEr c4 c5 he0 c6 hkl c7
      go_wp2_with fail
      refine (rwrong_any root h (some ⟨eb, eo, none⟩) n ce es Hn.out (by omega) k hlt xe xp xm xg xx xj xA xB ac bc an bn Hxs c p c1 c2 c3 hxb _ (Lib.hid rfl) _ (Lib.hid rfl) okb H6 e0 He0 wr HC.out.1 HC.out.2.1 HC.out.2.2 hwz.1 hwz.2).mono ?_
      rintro e w2 ⟨rfl, hB2⟩
      have hBw2 := bgo hBr hB2
      by_cases hz : e0 = 0
      · subst hz
        have hacc := Hacc.out
        rw [if_pos rfl] at hacc
        have Hacc2 := Lib.hid hacc
        have H2 := Lib.hid (And.intro hBw2 (And.intro (own_below Hown.out hB2) (HE.out.go hBw2)))
        have hz0 : ((0 : Int) != 0) = false := by decide
        clear hacc hB2 hBw2 Hacc
        go_wp2_with fail
        go_loopw [11, 12] (fun b i wi => ∃ q : Nat, q ≤ k ∧ i = .int .i64 (q : Int) ∧ ∃ s : Bool, (es.take q).any (fun y => decide (y.t = (⟨xe, xp, xm, xg, xx⟩ : TotD))) = s ∧ b = .bool s ∧ Below w2.heap.size w2 wi) (fun _ i _ => k - (intOf i).toNat)
        case atStart => exact ⟨0, Nat.zero_le _, rfl, false, rfl, rfl, Below.refl _ _⟩
        case round =>
          obtain ⟨q, hq, rfl, s, hs, rfl, hBq⟩ := hrel
          by_cases hqk : q < k
          · have hqk' : (q : Int) < (k : Int) := by omega
            have hqn : (q : Int) < (n : Int) := by omega
            have hqe : q < es.length := by rw [Hn.out]; omega
            obtain ⟨y, hy⟩ : ∃ y, es[q]? = some y := ⟨_, List.getElem?_eq_getElem hqe⟩
            have hstep := seen_succ ⟨xe, xp, xm, xg, xx⟩ hy
            rw [hs] at hstep
            obtain ⟨_, _, e1, heb1, hec1⟩ := (H2.out.2.2.go hBq).2 (by omega)
            injection e1 with e1; injection e1 with e1 e2; subst e1 e2
            have hyc := elV_cells hec1 hy
            have hxc := elV_cells hec1 Hxs.out
            obtain ⟨⟨ye, yp, ym, yg, yx⟩, yj, yA, yan, yac, yB, ybn, ybc⟩ := y
            dsimp only at hstep
            have v0 : wr.cell? ⟨eb, eo + q * 8, none⟩ = some (.string ye) := hyc 0 _ rfl (by decide)
            have v1 : wr.cell? ⟨eb, eo + q * 8 + 1, none⟩ = some (.string yp) := hyc 1 _ rfl (by decide)
            have v2 : wr.cell? ⟨eb, eo + q * 8 + 2, none⟩ = some (.int .i64 ym) := hyc 2 _ rfl (by decide)
            have v3 : wr.cell? ⟨eb, eo + q * 8 + 3, none⟩ = some (.int .i64 yg) := hyc 3 _ rfl (by decide)
            have v4 : wr.cell? ⟨eb, eo + q * 8 + 4, none⟩ = some (.int .i64 yx) := hyc 4 _ rfl (by decide)
            have z0 : wr.cell? ⟨eb, eo + k * 8, none⟩ = some (.string xe) := hxc 0 _ rfl (by decide)
            have z1 : wr.cell? ⟨eb, eo + k * 8 + 1, none⟩ = some (.string xp) := hxc 1 _ rfl (by decide)
            have z2 : wr.cell? ⟨eb, eo + k * 8 + 2, none⟩ = some (.int .i64 xm) := hxc 2 _ rfl (by decide)
            have z3 : wr.cell? ⟨eb, eo + k * 8 + 3, none⟩ = some (.int .i64 xg) := hxc 3 _ rfl (by decide)
            have z4 : wr.cell? ⟨eb, eo + k * 8 + 4, none⟩ = some (.int .i64 xx) := hxc 4 _ rfl (by decide)
            clear hec1 hyc hxc hy hs hqe
            cases s with
            | true =>
              have Hs := Lib.hid (show (es.take (q + 1)).any (fun y => decide (y.t = (⟨xe, xp, xm, xg, xx⟩ : TotD))) = true by rw [hstep]; rfl)
              clear hstep
              go_wp2_with fail
              go_quiet (fail)
              go_wp2_with fail
              go_roundw
              case rel => exact ⟨q + 1, by omega, by go_num, true, Hs.out, rfl, below_drewN hBq _⟩
              case measure => simp [intOf]; omega
            | false =>
              obtain ⟨te, hte⟩ : ∃ b, totEq ye yp ym yg yx xe xp xm xg xx = b := ⟨_, rfl⟩
              have Hs := Lib.hid (show (es.take (q + 1)).any (fun y => decide (y.t = (⟨xe, xp, xm, xg, xx⟩ : TotD))) = te by rw [hstep, ← hte]; rfl)
              clear hstep
              go_wp2_with fail
              go_quiet (fail)
              go_wp2_with fail
              go_roundw
              case rel => exact ⟨q + 1, by omega, by go_num, te, Hs.out, rfl, below_drewN hBq _⟩
              case measure => simp [intOf]; omega
          · obtain rfl : k = q := by omega
            have hqk' : ¬ (k : Int) < (k : Int) := by omega
            have hse : (s = true) ↔ ((⟨xe, xp, xm, xg, xx⟩ : TotD) ∈ acc) := by
              rw [← hs, List.any_eq_true, HM.out]
              rw [List.mem_map]
              exact ⟨fun ⟨y, h1, h2⟩ => ⟨y, h1, of_decide_eq_true h2⟩, fun ⟨y, h1, h2⟩ => ⟨y, h1, decide_eq_true h2⟩⟩
            have hBwr := bgo H2.out.1 hBq
            have hownr := own_below H2.out.2.1 hBq
            have hacc := Hacc2.out
            have hM2 := HM2.out
            clear hs
            cases s with
            | true =>
              have hin := hse.1 rfl
              rw [if_pos hin] at hacc hM2
              clear hse hin
              have Hx := Lib.hid (And.intro hacc (And.intro hM2 (And.intro hownr hBwr)))
              clear hacc hM2 hownr hBwr
              go_wp2_with fail
              go_roundw
              case rel => exact ⟨k + 1, by omega, by go_num, acc, by omega, Hx.out.2.2.1, Hx.out.2.1, Hx.out.1, Hx.out.2.2.2⟩
              case measure => simp [intOf]; omega
            | false =>
              have hnin : ¬ (⟨xe, xp, xm, xg, xx⟩ : TotD) ∈ acc := fun h => by have := hse.2 h; cases this
              rw [if_neg hnin] at hacc hM2
              clear hse hnin
              obtain ⟨_, _, e1, heb1, hec1⟩ := (H2.out.2.2.go hBq).2 (by omega)
              injection e1 with e1; injection e1 with e1 e2; subst e1 e2
              have hxc := elV_cells hec1 Hxs.out
              have z0 : wr.cell? ⟨eb, eo + k * 8, none⟩ = some (.string xe) := hxc 0 _ rfl (by decide)
              have z1 : wr.cell? ⟨eb, eo + k * 8 + 1, none⟩ = some (.string xp) := hxc 1 _ rfl (by decide)
              have z2 : wr.cell? ⟨eb, eo + k * 8 + 2, none⟩ = some (.int .i64 xm) := hxc 2 _ rfl (by decide)
              have z3 : wr.cell? ⟨eb, eo + k * 8 + 3, none⟩ = some (.int .i64 xg) := hxc 3 _ rfl (by decide)
              have z4 : wr.cell? ⟨eb, eo + k * 8 + 4, none⟩ = some (.int .i64 xx) := hxc 4 _ rfl (by decide)
              have hb0 : w.heap.size ≤ wr.heap.size := hBwr.size
              have Hx := Lib.hid (And.intro hacc (And.intro hM2 (And.intro hownr hBwr)))
              clear hacc hM2 hownr hBwr hec1 hxc
              go_wp2_with (first
                | (at_builtin; refine app_src2 (w0 := w) w.heap.size (Nat.le_refl _) ?c0 rfl _ _ 23 rfl 25 j0 _ 5 56 Tryz.underlying23 hj0 hy0 hy1 hy2 rfl (by decide) u8 acc.length (acc.flatMap totL5) rfl (Hx.out.2.2.1.alloc _) (bal Hx.out.2.2.2 _) (.slice (some ⟨wr.heap.size, 0, none⟩) 1 1) 1 [.string xe, .string xp, .int .i64 xm, .int .i64 xg, .int .i64 xx] rfl (block_src wr [.string xe, .string xp, .int .i64 xm, .int .i64 xg, .int .i64 xx] _ _ 1 1 5 rfl) (by simp [Value.oneCell']) (by unfold maxLen; omega) (by omega) ?_)
                | go_in)
              case c0 => first | omega | (simp; omega) | (rw [World.size_alloc]; omega)
              intro v7 w7 own7 bel7 kept7
              have Hy := Lib.hid (And.intro own7 bel7)
              clear own7 bel7 kept7 z0 z1 z2 z3 z4
              go_wp2_with fail
              go_roundw
              case rel => exact ⟨k + 1, by omega, by go_num, acc ++ [⟨xe, xp, xm, xg, xx⟩], by simp; omega, by (have h := Hy.out.1; rw [List.flatMap_append, List.length_append]; exact h), Hx.out.2.1, Hx.out.1, Hy.out.2⟩
              case measure => simp [intOf]; omega
      · have hacc := Hacc.out
        rw [if_neg hz] at hacc
        have hzb : (e0 != 0) = true := bne_iff_ne.2 hz
        injection hacc with h1 h2
        subst h1 h2
        clear hz
        go_wp2_with fail
        go_ret2
        exact ⟨_, rfl, ⟨rfl, .inl ⟨rfl, rfl⟩⟩, hBw2⟩
    · obtain rfl : n = k := by omega
      have hlt' : ¬ (n : Int) < (n : Int) := by omega
      have hfin : acc = T ∧ (0 : Int) = r := by
        rw [List.drop_of_length_le (by rw [Hn.out]; omega)] at hacc
        unfold accE at hacc
        injection hacc with h1 h2
        exact ⟨h2, h1⟩
      obtain ⟨h1, h2⟩ := hfin
      subst h1 h2
      go_wp2_with fail
      go_ret2
      exact ⟨_, rfl, hown, hBr⟩
theorem raccept_long (root : UInt64) (h : Int) (E : Option Addr) (ce n : Nat) (hn : 64 < n) (w : World) :
    Calls Tryz.prog 8 #[.int .u64 root.toNat, .int .i64 h, .slice E n ce] w fun e w' => e = .returned (.tuple #[.slice none 0 0, .int .i64 2]) ∧ Below w.heap.size w w' := by
  have hn64 : (64 : Int) < (n : Int) := by omega
  go_enter Tryz.func8, Tryz.ntmps8
  go_wp2
  go_ret2
  exact ⟨rfl, Below.refl _ _⟩
end Go.Proofs.YtmebllhkfepkdaaGreatDoor
