/- The walks of package handover, fourth part: wrong. Totals as keys of a map (handover). -/
import Derived.Test.YtpmakhfpdidleaaDoorQ15
import Derived.BigQuiet
import Derived.Maps.OwnSet
import Derived.Maps.StringElems
import Derived.DeepKeys4
namespace Go.Proofs.YtpmakhfpdidleaaDoor
open Go.RowKit Go.Shelf
set_option linter.unusedVariables false
set_option linter.unusedSimpArgs false
set_option maxRecDepth 100000
theorem tl_dec {a b : ByteArray} : (a.toList == b.toList) = decide (a = b) := by
  by_cases h : a = b
  · subst h; simp
  · rw [decide_eq_false h, beq_eq_false_iff_ne]
    intro e
    rw [ByteArray.toList_eq, ByteArray.toList_eq] at e
    exact h (bytes_eq e)
def totEq (ae ap : ByteArray) (am ag ax : Int) (be bp : ByteArray) (bm bg bx : Int) : Bool := decide ((⟨ae, ap, am, ag, ax⟩ : TotD) = ⟨be, bp, bm, bg, bx⟩)
theorem eqTot (ae ap : ByteArray) (am ag ax : Int) (be bp : ByteArray) (bm bg bx : Int) (w : World) :
    (Op.equalIn 10000 25 (.agg #[.string ae, .string ap, .int .i64 am, .int .i64 ag, .int .i64 ax]) (.agg #[.string be, .string bp, .int .i64 bm, .int .i64 bg, .int .i64 bx])).run Tryd.prog w = .ok (totEq ae ap am ag ax be bp bm bg bx) w := by
  unfold totEq
  have hf : Tryd.prog.fieldsOf 25 = _ := (by kernel_rfl : _ = (match Tryd.prog.underlying 25 with | some (.struct fs) => fs | _ => #[]))
  rw [run_equalIn_struct w 9999 _ _ _ (by kernel_rfl) (by kernel_rfl), hf, Tryd.underlying25]
  have hag : ∀ w, (isAgg 3).run Tryd.prog w = .ok false w := fun _ => by kernel_rfl
  have hag2 : ∀ w, (isAgg 9).run Tryd.prog w = .ok false w := fun _ => by kernel_rfl
  have hi := fun (w : World) (a b : Int) => run_equalIn_int (P := Tryd.prog) w 9998 3 .i64 .i64 a b Tryd.underlying3
  have hs := fun (w : World) (a b : ByteArray) => run_equalIn_string (P := Tryd.prog) w 9998 9 a b Tryd.underlying9
  by_cases h1 : ae = be
  · subst h1
    by_cases h2 : ap = bp
    · subst h2
      by_cases h3 : am = bm
      · subst h3
        by_cases h4 : ag = bg
        · subst h4
          by_cases h5 : ax = bx
          · subst h5
            simp [Op.eqFields, part, hag, hag2, hi, hs]
          · have e5 : (ax == bx) = false := beq_eq_false_iff_ne.2 h5
            simp [Op.eqFields, part, hag, hag2, hi, hs, e5, h5]
        · have e4 : (ag == bg) = false := beq_eq_false_iff_ne.2 h4
          simp [Op.eqFields, part, hag, hag2, hi, hs, e4, h4]
      · have e3 : (am == bm) = false := beq_eq_false_iff_ne.2 h3
        simp [Op.eqFields, part, hag, hag2, hi, hs, e3, h3]
    · have e2 : (ap.toList == bp.toList) = false := by rw [tl_dec]; exact decide_eq_false h2
      simp [Op.eqFields, part, hag, hag2, hi, hs, e2, h2]
  · have e1 : (ae.toList == be.toList) = false := by rw [tl_dec]; exact decide_eq_false h1
    simp [Op.eqFields, part, hag, hag2, hi, hs, e1, h1]
/-- An element of a list of signed totals: the total, the key's number, the places of the signature's lists. -/
structure ElM where
  t : TotD
  j : Int
  A : Option Addr
  an : Nat
  ac : Nat
  B : Option Addr
  bn : Nat
  bc : Nat
def elV (x : ElM) : List Value := [.string x.t.e, .string x.t.p, .int .i64 x.t.m, .int .i64 x.t.g, .int .i64 x.t.x, .int .i64 x.j, .slice x.A x.an x.ac, .slice x.B x.bn x.bc]
/-- The error that the elements before it cause. -/
def wrongL : List (TotD × Int) → TotD → Int → Int → Int
  | [], _, _, err => err
  | x :: l, t, i, err => if x.1 = t then wrongL l t i err else if x.2 = i then 251 else wrongL l t i (if x.1.e = t.e ∧ x.1.p = t.p ∧ x.1.m = t.m then 5 else err)
def wrongE (l : List (TotD × Int)) (t : TotD) (i : Int) (ok : Bool) : Int := if validTB t = true then (if ok = true then wrongL l t i 0 else 252) else 1
def keyOf29 (x : ElM) : TotD × Int := (x.t, x.j)
attribute [-go_sem] run_equalIn_agg
attribute [local go_sem] eqTot
set_option maxHeartbeats 8000000 in
theorem wrong29_any (root : UInt64) (h : Int) (E : Option Addr) (ce k : Nat) (es : List ElM) (hk : es.length = k) (te tp : ByteArray) (tm tg tx : Int) (i : Int) (A B : Option Addr) (ca cb n m : Nat) (c : List UInt64) (p : Forks) (hn : c.length = n) (hm : p.length = m) (hnl : n ≤ maxLen) (t : ByteArray) (ht : Hid (textT ⟨te, tp, tm, tg, tx⟩ = t)) (d : UInt64) (hd : Hid (Dig.sum t.data.toList = d))
    (ok : Bool) (hok : Hid (overB root h d i c p = ok)) (r : Int) (hr : Hid (wrongE (es.map keyOf29) ⟨te, tp, tm, tg, tx⟩ i ok = r)) (w : World) (hT : CaT.Tabs w) (hO : OTabs w) (hE : Sl w w.heap.size 8 E k (es.flatMap elV)) (hA : Sl w w.heap.size 1 A n (u64V c)) (hB : Sl w w.heap.size 2 B m (forkV p)) (he : te.size ≤ maxLen) (hp : tp.size ≤ maxLen) (hkl : k ≤ 1000000) :
    Calls Tryd.prog 15 #[.int .u64 root.toNat, .int .i64 h, .slice E k ce, .agg #[.string te, .string tp, .int .i64 tm, .int .i64 tg, .int .i64 tx, .int .i64 i, .slice A n ca, .slice B m cb]] w fun e w' => e = .returned (.int .i64 r) ∧ Below w.heap.size w w' := by
  obtain ⟨b, hb⟩ : ∃ b, validTB ⟨te, tp, tm, tg, tx⟩ = b := ⟨_, rfl⟩
  have Hb := Lib.hid hb
  have hr1 := hr.out
  unfold wrongE at hr1
  rw [hb] at hr1
  have HE := Lib.hid hE
  have HA := Lib.hid hA
  have HB := Lib.hid hB
  have Hk := Lib.hid hk
  clear hE hA hB hr
  go_enter Tryd.func15, Tryd.ntmps15
  go_upto_region 1 with fail
  obtain ⟨W, hW⟩ : ∃ W, W = w.alloc (.cells #[.string te, .string tp, .int .i64 tm, .int .i64 tg, .int .i64 tx, .int .i64 i, .slice A n ca, .slice B m cb] 38) := ⟨_, rfl⟩
  obtain ⟨X, hX⟩ : ∃ x, x = w.heap.size := ⟨_, rfl⟩
  have g : W.heap[X]? = some (.cells #[.string te, .string tp, .int .i64 tm, .int .i64 tg, .int .i64 tx, .int .i64 i, .slice A n ca, .slice B m cb] 38) := by rw [hW, hX]; exact World.alloc_heap_new _ _
  have hBW : Below w.heap.size w W := by rw [hW]; exact bal (Below.refl _ _) _
  have hXl : X < W.heap.size := (Array.getElem?_eq_some_iff.1 g).1
  rw [← hW, ← hX]
  have HX := Lib.hid hX
  clear hW hX
  have x0 : W.cell? ⟨X, 0, none⟩ = some (.string te) := by rw [Lib.cell_of_heap g]; rfl
  have x1 : W.cell? ⟨X, 1, none⟩ = some (.string tp) := by rw [Lib.cell_of_heap g]; rfl
  have x2 : W.cell? ⟨X, 2, none⟩ = some (.int .i64 tm) := by rw [Lib.cell_of_heap g]; rfl
  have x3 : W.cell? ⟨X, 3, none⟩ = some (.int .i64 tg) := by rw [Lib.cell_of_heap g]; rfl
  have x4 : W.cell? ⟨X, 4, none⟩ = some (.int .i64 tx) := by rw [Lib.cell_of_heap g]; rfl
  have x5 : W.cell? ⟨X, 5, none⟩ = some (.int .i64 i) := by rw [Lib.cell_of_heap g]; rfl
  have x6 : W.cell? ⟨X, 6, none⟩ = some (.slice A n ca) := by rw [Lib.cell_of_heap g]; rfl
  have x7 : W.cell? ⟨X, 7, none⟩ = some (.slice B m cb) := by rw [Lib.cell_of_heap g]; rfl
  go_wp2_with fail
  refine (valid29_any te tp tm tg tx b Hb W he hp).mono ?_
  rintro e w2 ⟨rfl, hB2⟩
  have hBw2 := bgo hBW hB2
  have g2 := (hB2.block _ hXl).trans g
  clear x0 x1 x2 x3 x4 x5 x6 x7
  cases b with
  | false =>
    simp only [Bool.false_eq_true, if_false] at hr1
    subst hr1
    go_wp2_with fail
    go_ret
    exact ⟨rfl, hBw2⟩
  | true =>
    simp only [if_true] at hr1
    have hts : t.size ≤ maxLen := by
      rw [← ht.out]
      unfold textT
      rw [if_pos hb]
      have := text_size hb
      unfold maxLen
      omega
    clear hb
    go_upto_region 3 with fail
    have GX := Lib.hid (show w2.drew.heap[X]? = some (.cells #[.string te, .string tp, .int .i64 tm, .int .i64 tg, .int .i64 tx, .int .i64 i, .slice A n ca, .slice B m cb] 38) from g2)
    have hXd : X < w2.drew.heap.size := (Array.getElem?_eq_some_iff.1 g2).1
    have hTd : CaT.Tabs w2.drew := hT.go hBw2.drew
    refine wp_region_noPanic ?_
    refine wp_region_held_drew (S := fun W' => W'.heap[X]? = some (.cells #[.string te, .string tp, .int .i64 tm, .int .i64 tg, .int .i64 tx, .int .i64 i, .slice A n ca, .slice B m cb] 38)) (by kernel_rfl) GX.out (fun hHeld => ?_)
    refine wpAnyH_take (i := 0) (v := ?_) rfl (by kernel_rfl) (by kernel_rfl) (by kernel_rfl) (fun _ _ _ h => h) (Or.inl ⟨by kernel_rfl, ?_⟩) (by assumption) ?_
    rotate_left
    · intro w hSw
      (try dsimp only at hSw)
      go_simp
      first | done | with_reducible rfl
    simp only [List.getElem_toArray, List.getElem_cons_zero, List.getElem_cons_succ, Act.put, List.setIfInBounds_toArray, List.set_cons_zero, List.set_cons_succ]
    refine wpAnyH_take (i := 1) (v := ?_) rfl (by kernel_rfl) (by kernel_rfl) (by kernel_rfl) (fun _ _ _ h => h) (Or.inl ⟨by kernel_rfl, ?_⟩) (by assumption) ?_
    rotate_left
    · intro w hSw
      (try dsimp only at hSw)
      go_simp
      first | done | with_reducible rfl
    simp only [List.getElem_toArray, List.getElem_cons_zero, List.getElem_cons_succ, Act.put, List.setIfInBounds_toArray, List.set_cons_zero, List.set_cons_succ]
    refine wpAnyH_take (i := 2) (v := ?_) rfl (by kernel_rfl) (by kernel_rfl) (by kernel_rfl) (fun _ _ _ h => h) (Or.inl ⟨by kernel_rfl, ?_⟩) (by assumption) ?_
    rotate_left
    · intro w hSw
      (try dsimp only at hSw)
      go_simp
      first | done | with_reducible rfl
    simp only [List.getElem_toArray, List.getElem_cons_zero, List.getElem_cons_succ, Act.put, List.setIfInBounds_toArray, List.set_cons_zero, List.set_cons_succ]
    refine wpAnyH_take (i := 3) (v := ?_) rfl (by kernel_rfl) (by kernel_rfl) (by kernel_rfl) (fun _ _ _ h => h) (Or.inl ⟨by kernel_rfl, ?_⟩) (by assumption) ?_
    rotate_left
    · intro w hSw
      (try dsimp only at hSw)
      have z0 : w.cell? ⟨X, 0, none⟩ = some (.string te) := by rw [Lib.cell_of_heap hSw]; rfl
      have z1 : w.cell? ⟨X, 1, none⟩ = some (.string tp) := by rw [Lib.cell_of_heap hSw]; rfl
      have z2 : w.cell? ⟨X, 2, none⟩ = some (.int .i64 tm) := by rw [Lib.cell_of_heap hSw]; rfl
      have z3 : w.cell? ⟨X, 3, none⟩ = some (.int .i64 tg) := by rw [Lib.cell_of_heap hSw]; rfl
      have z4 : w.cell? ⟨X, 4, none⟩ = some (.int .i64 tx) := by rw [Lib.cell_of_heap hSw]; rfl
      clear hSw
      go_simp
      first | done | with_reducible rfl
    simp only [List.getElem_toArray, List.getElem_cons_zero, List.getElem_cons_succ, Act.put, List.setIfInBounds_toArray, List.set_cons_zero, List.set_cons_succ]
    refine wpAnyH_take (i := 5) (v := ?_) rfl (by kernel_rfl) (by kernel_rfl) (by kernel_rfl) (fun _ _ _ h => h) (Or.inl ⟨by kernel_rfl, ?_⟩) (by assumption) ?_
    rotate_left
    · intro w hSw
      (try dsimp only at hSw)
      go_simp
      first | done | with_reducible rfl
    simp only [List.getElem_toArray, List.getElem_cons_zero, List.getElem_cons_succ, Act.put, List.setIfInBounds_toArray, List.set_cons_zero, List.set_cons_succ]
    refine wpAnyH_take (i := 6) (v := ?_) rfl (by kernel_rfl) (by kernel_rfl) (by kernel_rfl) (fun _ _ _ h => h) (Or.inl ⟨by kernel_rfl, ?_⟩) (by assumption) ?_
    rotate_left
    · intro w hSw
      (try dsimp only at hSw)
      have z5 : w.cell? ⟨X, 5, none⟩ = some (.int .i64 i) := by rw [Lib.cell_of_heap hSw]; rfl
      have z6 : w.cell? ⟨X, 6, none⟩ = some (.slice A n ca) := by rw [Lib.cell_of_heap hSw]; rfl
      have z7 : w.cell? ⟨X, 7, none⟩ = some (.slice B m cb) := by rw [Lib.cell_of_heap hSw]; rfl
      clear hSw
      go_simp
      first | done | with_reducible rfl
    simp only [List.getElem_toArray, List.getElem_cons_zero, List.getElem_cons_succ, Act.put, List.setIfInBounds_toArray, List.set_cons_zero, List.set_cons_succ]
    refine wpAnyH_ready (rs := [4]) (by kernel_rfl) (by simp) ?_
    refine AllReadyH.cons rfl (fun K hK => ?_) AllReadyH.nil
    simp only [List.getElem_toArray, List.getElem_cons_zero, List.getElem_cons_succ]
    go_simp
    (with_reducible refine (text29_any te tp tm tg tx t ht w2.drew he hp hTd).mono ?_)
    rintro e w3 ⟨rfl, hB3⟩
    dsimp only
    have hBw3 := bgo hBw2.drew hB3
    refine hK.out _ _ ((hB3.block _ hXd).trans GX.out) (fun hHeld => ?_)
    clear hK K
    try simp only [List.getElem_toArray, List.getElem_cons_zero, List.getElem_cons_succ, Act.put, List.setIfInBounds_toArray, List.set_cons_zero, List.set_cons_succ]
    refine wpAnyH_ready (rs := [7]) (by kernel_rfl) (by simp) ?_
    refine AllReadyH.cons rfl (fun K hK => ?_) AllReadyH.nil
    simp only [List.getElem_toArray, List.getElem_cons_zero, List.getElem_cons_succ]
    go_simp
    (with_reducible refine (over_at root h t d hd hts i A B ca cb n m c p hn hm hnl ok hok w3 (hO.go hBw3) (HA.out.go hBw3) (HB.out.go hBw3)).mono ?_)
    rintro e w4 ⟨rfl, hB4⟩
    dsimp only
    have hB34 := bgo hB3 hB4
    refine hK.out _ _ ((hB34.block _ hXd).trans GX.out) (fun hHeld => ?_)
    clear hK K
    try simp only [List.getElem_toArray, List.getElem_cons_zero, List.getElem_cons_succ, Act.put, List.setIfInBounds_toArray, List.set_cons_zero, List.set_cons_succ]
    refine wpAnyH_take (i := 8) (v := ?_) rfl (by kernel_rfl) (by kernel_rfl) (by kernel_rfl) (fun _ _ _ h => h) (Or.inl ⟨by kernel_rfl, ?_⟩) (by assumption) ?_
    rotate_left
    · intro w hSw
      (try dsimp only at hSw)
      go_simp
      first | done | with_reducible rfl
    simp only [List.getElem_toArray, List.getElem_cons_zero, List.getElem_cons_succ, Act.put, List.setIfInBounds_toArray, List.set_cons_zero, List.set_cons_succ]
    refine wpAnyH_done (by kernel_rfl) ?_ _
    dsimp only [NoPanic]
    clear hHeld
    have g4 := (hB34.block _ hXd).trans GX.out
    have hBw4 := bgo hBw2.drew hB34
    cases ok with
    | false =>
      simp only [Bool.false_eq_true, if_false] at hr1
      subst hr1
      go_wp2_with fail
      go_ret
      exact ⟨rfl, hBw4⟩
    | true =>
      simp only [if_true] at hr1
      have G4 := Lib.hid g4
      have hX4 : X < w4.heap.size := (Array.getElem?_eq_some_iff.1 g4).1
      have HE4 := Lib.hid (HE.out.go hBw4)
      have hst : Hid (wrongL ((es.map keyOf29).drop 0) ⟨te, tp, tm, tg, tx⟩ i 0 = r) := Lib.hid hr1
      clear g4 hr1 hB34 GX hXd hTd hB3 hB4 hHeld
      go_wp2_with fail
      go_loopw [9, 27] (fun er ix wr => ∃ q : Nat, q ≤ k ∧ ix = .int .i64 (q : Int) ∧ ∃ e : Int, er = .int .i64 e ∧ wrongL ((es.map keyOf29).drop q) ⟨te, tp, tm, tg, tx⟩ i e = r ∧ Below w4.heap.size w4 wr) (fun _ ix _ => k - (intOf ix).toNat)
      case atStart => exact ⟨0, Nat.zero_le _, rfl, 0, rfl, hst.out, Below.refl _ _⟩
      case round =>
        clear hst
        obtain ⟨q, hq, rfl, er, rfl, hwl, hBr⟩ := hrel
        have hBe : Below w.heap.size w wr := bgo hBw4 hBr
        by_cases hlt : q < k
        · have hlt' : (q : Int) < (k : Int) := by omega
          obtain ⟨eb, eo, rfl, heb, hec⟩ := HE4.out.2 (by omega)
          have hql : q < es.length := by rw [Hk.out]; exact hlt
          have hget := flat_get elV 8 (fun _ => rfl) es q hql
          obtain ⟨x, hx⟩ : ∃ x, es[q] = x := ⟨_, rfl⟩
          have hdr : (es.map keyOf29).drop q = keyOf29 x :: (es.map keyOf29).drop (q + 1) := by
            rw [List.drop_eq_getElem_cons (by simpa using hql), List.getElem_map, hx]
          rw [hdr] at hwl
          rw [hx] at hget
          obtain ⟨⟨oe, op, om, og, ox⟩, oj, oA, oan, oac, oB, obn, obc⟩ := x
          have u0 : wr.cell? ⟨eb, eo + q * 8, none⟩ = some (.string oe) := (hBr.cell (p := ⟨eb, eo + q * 8, none⟩) heb).trans (hec _ _ (hget 0 (by decide)))
          have u1 : wr.cell? ⟨eb, eo + q * 8 + 1, none⟩ = some (.string op) := (hBr.cell (p := ⟨eb, eo + q * 8 + 1, none⟩) heb).trans (hec _ _ (hget 1 (by decide)))
          have u2 : wr.cell? ⟨eb, eo + q * 8 + 2, none⟩ = some (.int .i64 om) := (hBr.cell (p := ⟨eb, eo + q * 8 + 2, none⟩) heb).trans (hec _ _ (hget 2 (by decide)))
          have u3 : wr.cell? ⟨eb, eo + q * 8 + 3, none⟩ = some (.int .i64 og) := (hBr.cell (p := ⟨eb, eo + q * 8 + 3, none⟩) heb).trans (hec _ _ (hget 3 (by decide)))
          have u4 : wr.cell? ⟨eb, eo + q * 8 + 4, none⟩ = some (.int .i64 ox) := (hBr.cell (p := ⟨eb, eo + q * 8 + 4, none⟩) heb).trans (hec _ _ (hget 4 (by decide)))
          have u5 : wr.cell? ⟨eb, eo + q * 8 + 5, none⟩ = some (.int .i64 oj) := (hBr.cell (p := ⟨eb, eo + q * 8 + 5, none⟩) heb).trans (hec _ _ (hget 5 (by decide)))
          have u6 : wr.cell? ⟨eb, eo + q * 8 + 6, none⟩ = some (.slice oA oan oac) := (hBr.cell (p := ⟨eb, eo + q * 8 + 6, none⟩) heb).trans (hec _ _ (hget 6 (by decide)))
          have u7 : wr.cell? ⟨eb, eo + q * 8 + 7, none⟩ = some (.slice oB obn obc) := (hBr.cell (p := ⟨eb, eo + q * 8 + 7, none⟩) heb).trans (hec _ _ (hget 7 (by decide)))
          unfold wrongL keyOf29 at hwl
          dsimp only at hwl
          clear hget hx hdr hec hql
          go_upto_region 9 with fail
          obtain ⟨V, hV⟩ : ∃ V, V = wr.alloc (.cells #[.string oe, .string op, .int .i64 om, .int .i64 og, .int .i64 ox, .int .i64 oj, .slice oA oan oac, .slice oB obn obc] 38) := ⟨_, rfl⟩
          obtain ⟨Y, hY⟩ : ∃ x, x = wr.heap.size := ⟨_, rfl⟩
          have gY : V.heap[Y]? = some (.cells #[.string oe, .string op, .int .i64 om, .int .i64 og, .int .i64 ox, .int .i64 oj, .slice oA oan oac, .slice oB obn obc] 38) := by rw [hV, hY]; exact World.alloc_heap_new _ _
          have hBV : Below wr.heap.size wr V := by rw [hV]; exact bal (Below.refl _ _) _
          rw [← hV, ← hY]
          have gX := ((bgo hBr hBV).block _ hX4).trans G4.out
          have hB4V := bgo hBr hBV
          have hBeV := bgo hBe hBV
          clear hV hY u0 u1 u2 u3 u4 u5 u6 u7
          have x0 : V.cell? ⟨X, 0, none⟩ = some (.string te) := by rw [Lib.cell_of_heap gX]; rfl
          have x1 : V.cell? ⟨X, 1, none⟩ = some (.string tp) := by rw [Lib.cell_of_heap gX]; rfl
          have x2 : V.cell? ⟨X, 2, none⟩ = some (.int .i64 tm) := by rw [Lib.cell_of_heap gX]; rfl
          have x3 : V.cell? ⟨X, 3, none⟩ = some (.int .i64 tg) := by rw [Lib.cell_of_heap gX]; rfl
          have x4 : V.cell? ⟨X, 4, none⟩ = some (.int .i64 tx) := by rw [Lib.cell_of_heap gX]; rfl
          have x5 : V.cell? ⟨X, 5, none⟩ = some (.int .i64 i) := by rw [Lib.cell_of_heap gX]; rfl
          have y0 : V.cell? ⟨Y, 0, none⟩ = some (.string oe) := by rw [Lib.cell_of_heap gY]; rfl
          have y1 : V.cell? ⟨Y, 1, none⟩ = some (.string op) := by rw [Lib.cell_of_heap gY]; rfl
          have y2 : V.cell? ⟨Y, 2, none⟩ = some (.int .i64 om) := by rw [Lib.cell_of_heap gY]; rfl
          have y3 : V.cell? ⟨Y, 3, none⟩ = some (.int .i64 og) := by rw [Lib.cell_of_heap gY]; rfl
          have y4 : V.cell? ⟨Y, 4, none⟩ = some (.int .i64 ox) := by rw [Lib.cell_of_heap gY]; rfl
          have y5 : V.cell? ⟨Y, 5, none⟩ = some (.int .i64 oj) := by rw [Lib.cell_of_heap gY]; rfl
          by_cases hpe : (⟨oe, op, om, og, ox⟩ : TotD) = ⟨te, tp, tm, tg, tx⟩
          · rw [if_pos hpe] at hwl
            have Hwl := Lib.hid hwl
            have hde : totEq oe op om og ox te tp tm tg tx = true := decide_eq_true hpe
            clear hwl hpe
            go_wp2_with fail
            go_roundw
            case rel => exact ⟨q + 1, by omega, by go_num, _, rfl, Hwl.out, hB4V⟩
            case measure => simp [intOf]; omega
          · rw [if_neg hpe] at hwl
            have hde : totEq oe op om og ox te tp tm tg tx = false := decide_eq_false hpe
            clear hpe
            by_cases hji : oj = i
            · rw [if_pos hji] at hwl
              subst hwl
              have hjb : (oj == i) = true := beq_iff_eq.2 hji
              clear hji
              go_wp2_with fail
              go_ret
              exact ⟨rfl, hBeV⟩
            · rw [if_neg hji] at hwl
              have hjb : (oj == i) = false := beq_eq_false_iff_ne.2 hji
              clear hji
              by_cases h1 : oe = te
              · have k1 : (oe.toList == te.toList) = true := by rw [tl_dec]; exact decide_eq_true h1
                by_cases h2 : op = tp
                · have k2 : (op.toList == tp.toList) = true := by rw [tl_dec]; exact decide_eq_true h2
                  by_cases h3 : om = tm
                  · have k3 : (om == tm) = true := beq_iff_eq.2 h3
                    rw [if_pos ⟨h1, h2, h3⟩] at hwl
                    have Hwl := Lib.hid hwl
                    clear hwl h1 h2 h3
                    go_wp2_with fail
                    go_roundw
                    case rel => exact ⟨q + 1, by omega, by go_num, _, rfl, Hwl.out, hB4V⟩
                    case measure => simp [intOf]; omega
                  · have k3 : (om == tm) = false := beq_eq_false_iff_ne.2 h3
                    rw [if_neg (fun h => h3 h.2.2)] at hwl
                    have Hwl := Lib.hid hwl
                    clear hwl h1 h2 h3
                    go_wp2_with fail
                    go_roundw
                    case rel => exact ⟨q + 1, by omega, by go_num, _, rfl, Hwl.out, hB4V⟩
                    case measure => simp [intOf]; omega
                · have k2 : (op.toList == tp.toList) = false := by rw [tl_dec]; exact decide_eq_false h2
                  rw [if_neg (fun h => h2 h.2.1)] at hwl
                  have Hwl := Lib.hid hwl
                  clear hwl h1 h2
                  go_wp2_with fail
                  go_roundw
                  case rel => exact ⟨q + 1, by omega, by go_num, _, rfl, Hwl.out, hB4V⟩
                  case measure => simp [intOf]; omega
              · have k1 : (oe.toList == te.toList) = false := by rw [tl_dec]; exact decide_eq_false h1
                rw [if_neg (fun h => h1 h.1)] at hwl
                have Hwl := Lib.hid hwl
                clear hwl h1
                go_wp2_with fail
                go_roundw
                case rel => exact ⟨q + 1, by omega, by go_num, _, rfl, Hwl.out, hB4V⟩
                case measure => simp [intOf]; omega
        · obtain rfl : k = q := by omega
          have hfin : er = r := by
            rw [List.drop_of_length_le (by rw [List.length_map, Hk.out]; omega)] at hwl
            exact hwl
          subst hfin
          go_wp2_with fail
          go_ret
          exact ⟨rfl, hBe⟩
end Go.Proofs.YtpmakhfpdidleaaDoor
namespace Go.Proofs.YtpmakhfpdidleaaDoor
open Go.RowKit Go.Shelf Go.Maps
set_option linter.unusedVariables false
set_option linter.unusedSimpArgs false
set_option maxRecDepth 100000
theorem laidOutT : laidOutB Tryd.prog = true := by kernel_rfl
theorem rowT : (25 : TypeId) < Tryd.prog.types.size := of_decide_eq_true (by kernel_rfl)
theorem wideT : (match Tryd.prog.underlying 25 with | some (.array _ _) | some (.struct _) => true | _ => false) = true := by kernel_rfl
theorem lawT : Keyed Tryd.prog 25 := Keyed.of_law (deep_law_laid laidOutT (m := 2) (by omega) rowT (by kernel_rfl) wideT)
/-- Totals that a map can hold. -/
def TotWf (t : TotD) : Prop := t.e.size ≤ maxLen ∧ t.p.size ≤ maxLen ∧ (Lit.int .i64 t.m).wf = true ∧ (Lit.int .i64 t.g).wf = true ∧ (Lit.int .i64 t.x).wf = true
def keyT (t : TotD) : Lit := .string (keyBytes [.string t.e.data.toList, .string t.p.data.toList, .int .i64 t.m, .int .i64 t.g, .int .i64 t.x])
theorem keyLits_int (d : Nat) (a : Int) (h : (Lit.int .i64 a).wf = true) : Tryd.prog.keyLits (d + 1) 3 [.int .i64 a] = some [.int .i64 a] := by
  unfold Program.keyLits
  rw [Tryd.underlying3]
  simp [h]
theorem keyLits_str (d : Nat) (s : ByteArray) (h : s.size ≤ maxLen) : Tryd.prog.keyLits (d + 1) 9 [.string s] = some [.string s.data.toList] := by
  unfold Program.keyLits
  rw [Tryd.underlying9]
  simp [h]
theorem keyLits_tot (d : Nat) (te tp : ByteArray) (tm tg tx : Int) (h1 : te.size ≤ maxLen) (h2 : tp.size ≤ maxLen) (h3 : (Lit.int .i64 tm).wf = true) (h4 : (Lit.int .i64 tg).wf = true) (h5 : (Lit.int .i64 tx).wf = true) :
    Tryd.prog.keyLits (d + 2) 25 [.string te, .string tp, .int .i64 tm, .int .i64 tg, .int .i64 tx] = some [.string te.data.toList, .string tp.data.toList, .int .i64 tm, .int .i64 tg, .int .i64 tx] := by
  have hc : Tryd.prog.cellsOf 25 = 5 := by kernel_rfl
  have hci : Tryd.prog.cellsOf 3 = 1 := by kernel_rfl
  have hcs : Tryd.prog.cellsOf 9 = 1 := by kernel_rfl
  have e1 := keyLits_str d te h1
  have e2 := keyLits_str d tp h2
  have e3 := keyLits_int d tm h3
  have e4 := keyLits_int d tg h4
  have e5 := keyLits_int d tx h5
  rw [show d + 2 = (d + 1) + 1 from rfl]
  unfold Program.keyLits
  rw [Tryd.underlying25]
  simp [hc, hci, hcs, e1, e2, e3, e4, e5]
theorem keyOf_tot {t : TotD} (h : TotWf t) : keyOf Tryd.prog 25 (totV t) = some (keyT t) := by
  obtain ⟨h1, h2, h3, h4, h5⟩ := h
  obtain ⟨te, tp, tm, tg, tx⟩ := t
  dsimp only at h1 h2 h3 h4 h5
  have hk : Tryd.prog.keyType 25 = true := by kernel_rfl
  obtain ⟨d, hd⟩ : ∃ d, Tryd.prog.types.size + 1 = d + 2 := ⟨Tryd.prog.types.size - 1, by have h : 0 < Tryd.prog.types.size := Nat.lt_of_le_of_lt (Nat.zero_le _) rowT; omega⟩
  have hl := keyLits_tot d te tp tm tg tx h1 h2 h3 h4 h5
  have hf : (totV ⟨te, tp, tm, tg, tx⟩).formed Tryd.prog 25 = true := by kernel_rfl
  unfold keyOf
  rw [Tryd.underlying25, hk, hf, hd]
  show Option.map _ (Tryd.prog.keyLits (d + 2) 25 [.string te, .string tp, .int .i64 tm, .int .i64 tg, .int .i64 tx]) = _
  rw [hl]
  rfl
theorem keyT_inj {t u : TotD} (ht : TotWf t) (hu : TotWf u) (h : keyT t = keyT u) : t = u := by
  have h1 := keyOf_tot ht
  have h2 := keyOf_tot hu
  rw [← h] at h2
  have h3 := lawT.inj h1 h2
  unfold totV totC at h3
  obtain ⟨te, tp, tm, tg, tx⟩ := t
  obtain ⟨ue, up, um, ug, ux⟩ := u
  simp at h3
  obtain ⟨a, b, c, d, e⟩ := h3
  subst a b c d e
  rfl
theorem zeroB (w : World) : (zeroValue 4).run Tryd.prog w = .ok (.bool false) w := by kernel_rfl
theorem plainElem_bool_inv {H : Type} {P : Program} {e : TypeId} (he : P.underlying e = some .bool) {v : Value} {z : DataW H × List MemPlace} (h : plainElem P e v = some z) : ∃ a, v = .bool a ∧ z = (.lit (.bool a), []) := by
  unfold plainElem at h
  rw [he] at h
  cases v <;> simp at h
  subst h
  exact ⟨_, rfl, rfl⟩
/-- What the map of the totals seen holds. -/
structure SeenT {H : Type} (l : List TotD) (D : DataW H) : Prop where
  at_ : ∀ t, TotWf t → D.atKey (keyT t) (.lit (.bool false)) = .lit (.bool (decide (t ∈ l)))
theorem SeenT.new {H : Type} : SeenT (H := H) [] (.map []) := ⟨fun t _ => by rw [decide_eq_false (by simp)]; rfl⟩
end Go.Proofs.YtpmakhfpdidleaaDoor
