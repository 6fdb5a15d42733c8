/- The walk of HandoverMatchesReference. -/
import Derived.Test.YtmebllhkfepkdaaGreatDoorQ31
import Derived.Deep.DeepCutAuto
import Derived.Deep.CutBlock
import Derived.IntWalk
namespace Go.Proofs.YtmebllhkfepkdaaGreatDoor
open Go.RowKit Go.Shelf
set_option linter.unusedVariables false
set_option linter.unusedSimpArgs false
set_option maxRecDepth 100000
attribute [-go_sem] run_equalIn_agg
attribute [local go_sem] eqTot
theorem totEq_self (ae ap : ByteArray) (am ag ax : Int) : totEq ae ap am ag ax ae ap am ag ax = true := by simp [totEq]
def mkE90 : Array Value := madeCells (Value.cells (.agg #[.string ⟨#[]⟩, .string ⟨#[]⟩, .int .i64 0, .int .i64 0, .int .i64 0, .int .i64 0, .slice none 0 0, .slice none 0 0])) (90 * 8)
theorem mkE90_run : ∀ w, (Instr.makeSlice 22 (.int .i64 0) (.int .i64 90)).run Tryz.prog w = .ok (.slice (some ⟨w.heap.size, 0, none⟩) 0 90) (w.alloc (.cells mkE90 33)) := by
  intro w
  obtain ⟨i, hi, h1, h2, h3⟩ := info_parts info_sgd
  have h := run_make (P := Tryz.prog) w 22 33 i _ Tryz.underlying22 hi h1 .i64 .i64 0 90 (by decide) (by decide) (by rw [h3]; decide) (by decide)
  rw [h2] at h
  exact h
theorem mkE90_size : mkE90.size = 90 * 8 := size_madeCells _ _
theorem mkE90_own (W : World) : (W.alloc (.cells mkE90 33)).ownsRow W.heap.size 33 8 (.slice (some ⟨W.heap.size, 0, none⟩) 0 90) 0 [] := hn_mk W mkE90 90 33 8 mkE90_size (by decide) _ (Nat.le_refl _)
theorem els_one9 (l : List ElM) : ∀ u ∈ l.flatMap elV, u.oneCell' = true := by
  intro u hu
  obtain ⟨t, _, h⟩ := List.mem_flatMap.1 hu
  simp only [elV, List.mem_cons, List.not_mem_nil, or_false] at h
  rcases h with h | h | h | h | h | h | h | h <;> · subst h; rfl
theorem tots_one9 (l : List TotD) : ∀ u ∈ l.flatMap totL5, u.oneCell' = true := by
  intro u hu
  obtain ⟨t, _, h⟩ := List.mem_flatMap.1 hu
  simp only [totL5, List.mem_cons, List.not_mem_nil, or_false] at h
  rcases h with h | h | h | h | h <;> · subst h; rfl
theorem hblk_go {W W' : World} {b : Nat} {o : Obj} (h : W.heap[b]? = some o) (k : Below W.heap.size W W') : W'.heap[b]? = some o := (k.block _ (Array.getElem?_eq_some_iff.1 h).1).trans h
theorem sl_src9 {W : World} {B size n c : Nat} {A : Option Addr} {xs : List Value} (h : Sl W B size A n xs) (hc : A = none → c = 0) : Src W size (.slice A n c) n xs := by
  by_cases hn : 0 < n
  · obtain ⟨b, off, rfl, _, hx⟩ := h.2 hn
    exact .inr ⟨_, _, rfl, h.1, fun j u hu => by rw [Addr.add_lit]; exact hx j u hu⟩
  · obtain rfl : n = 0 := by omega
    have hx : xs = [] := List.eq_nil_of_length_eq_zero (by have := h.1; simpa using this)
    subst hx
    cases A with
    | none => rw [hc rfl]; exact .inl ⟨rfl, rfl, rfl⟩
    | some a => exact .inr ⟨a, c, rfl, by simp, fun j u hu => by simp at hu⟩
set_option maxHeartbeats 100000000 in
theorem handoverMatchesReference_walk (A0 : Option Addr) (c0 : Nat) (es : List ElM) (A1 : Option Addr) (c1 : Nat) (ts : List TotD) (t : TotD) (A3 : Option Addr) (c3 : Nat) (qs : List Quad) (person : ByteArray) (month index : Int) (w : World)
    (S0 : Sl w w.heap.size 8 A0 es.length (es.flatMap elV)) (l0 : es.length ≤ c0 ∧ c0 ≤ maxLen) (e0 : ∀ x ∈ es, ElIn w x) (z0 : A0 = none → c0 = 0) (S1 : Sl w w.heap.size 5 A1 ts.length (ts.flatMap totL5)) (l1 : ts.length ≤ c1 ∧ c1 ≤ maxLen) (e1 : ∀ x ∈ ts, TotWf x) (z1 : A1 = none → c1 = 0) (S2 : TotWf t)
    (S3 : Sl w w.heap.size 4 A3 qs.length (qs.flatMap quadV)) (l3 : qs.length ≤ c3 ∧ c3 ≤ maxLen) (e3 : ∀ q ∈ qs, QuadOk q) (w4 : person.size ≤ maxLen) (w5 : (Lit.int .i64 month).wf = true) (w6 : (Lit.int .i64 index).wf = true) (hT : Tabs w) :
    Calls Tryz.prog 3 #[.slice A0 es.length c0, .slice A1 ts.length c1, .agg #[.string t.e, .string t.p, .int .i64 t.m, .int .i64 t.g, .int .i64 t.x], .slice A3 qs.length c3, .string person, .int .i64 month, .int .i64 index] w fun e w' => e = .returned (.bool true) ∧ Below w.heap.size w w' := by
  replace w5 : I64 month := bounds_i64 w5
  replace w6 : I64 index := bounds_i64 w6
  obtain ⟨j0, hj0, hj1, hj2, hj3⟩ := info_parts info_tot
  obtain ⟨i0, hi0, hi1, hi2, hi3⟩ := info_parts info_sgd
  obtain ⟨te, tp, tm, tg, tx⟩ := t
  obtain ⟨n0, hn0⟩ : ∃ n, n = es.length := ⟨_, rfl⟩
  obtain ⟨n1, hn1⟩ : ∃ n, n = ts.length := ⟨_, rfl⟩
  obtain ⟨n3, hn3⟩ : ∃ n, n = qs.length := ⟨_, rfl⟩
  rw [← hn0] at S0 l0
  rw [← hn1] at S1 l1
  rw [← hn3] at S3 l3
  rw [← hn0, ← hn1, ← hn3]
  have hsz := TotWf.sz S2
  dsimp only at hsz
  have Hn0 := Lib.hid hn0.symm
  have Hn1 := Lib.hid hn1.symm
  have Hn3 := Lib.hid hn3.symm
  have HS0 := Lib.hid S0
  have HS1 := Lib.hid S1
  have HS3 := Lib.hid S3
  have He0 := Lib.hid e0
  have He1 := Lib.hid e1
  have He3 := Lib.hid e3
  have Hz := Lib.hid (And.intro z0 z1)
  have Hl := Lib.hid (And.intro l0 (And.intro l1 l3))
  have HT := Lib.hid hT
  have Hw := Lib.hid (And.intro w5 w6)
  have Hwt := Lib.hid S2
  clear hn0 hn1 hn3 S0 S1 S3 e0 e1 e3 z0 z1 l0 l1 l3 hT S2
  go_enter Tryz.func3, Tryz.ntmps3
  go_upto_region 1 with fail
  obtain ⟨V0, hV0⟩ : ∃ W, W = w.alloc (.cells #[.string te, .string tp, .int .i64 tm, .int .i64 tg, .int .i64 tx] 25) := ⟨_, rfl⟩
  obtain ⟨X, hX⟩ : ∃ i, i = w.heap.size := ⟨_, rfl⟩
  rw [← hV0]
  try rw [← hX]
  have gX : V0.heap[X]? = some (.cells #[.string te, .string tp, .int .i64 tm, .int .i64 tg, .int .i64 tx] 25) := by rw [hV0, hX]; exact World.alloc_heap_new _ _
  have hb0 : Below w.heap.size w V0 := by rw [hV0]; exact bal (Below.refl _ _) _
  clear hV0 hX
  go_wp2_with fail
  refine (head29_any V0 (HT.out.go hb0).1 (HT.out.go hb0).2).mono ?_
  rintro e w1 ⟨rfl, hB1⟩
  have H1 := Lib.hid (And.intro ((hB1.block _ (Array.getElem?_eq_some_iff.1 gX).1).trans gX) (bgo hb0 hB1))
  clear gX hb0 hB1
  have k0 : w1.cell? ⟨X, 0, none⟩ = some (.string te) := by rw [Lib.cell_of_heap H1.out.1]; rfl
  have k1 : w1.cell? ⟨X, 1, none⟩ = some (.string tp) := by rw [Lib.cell_of_heap H1.out.1]; rfl
  have k2 : w1.cell? ⟨X, 2, none⟩ = some (.int .i64 tm) := by rw [Lib.cell_of_heap H1.out.1]; rfl
  have k3 : w1.cell? ⟨X, 3, none⟩ = some (.int .i64 tg) := by rw [Lib.cell_of_heap H1.out.1]; rfl
  have k4 : w1.cell? ⟨X, 4, none⟩ = some (.int .i64 tx) := by rw [Lib.cell_of_heap H1.out.1]; rfl
  by_cases g0 : 70 < n0
  · have q0 : (70 : Int) < (n0 : Int) := by omega
    (go_wp2_with fail; go_ret; exact ⟨rfl, H1.out.2⟩)
  have q0 : ¬ (70 : Int) < (n0 : Int) := by omega
  by_cases g1 : 70 < n1
  · have q1 : (70 : Int) < (n1 : Int) := by omega
    (go_wp2_with fail; go_ret; exact ⟨rfl, H1.out.2⟩)
  have q1 : ¬ (70 : Int) < (n1 : Int) := by omega
  by_cases g2 : 100 < te.size
  · have q2 : (100 : Int) < (te.size : Int) := by omega
    (go_wp2_with fail; go_ret; exact ⟨rfl, H1.out.2⟩)
  have q2 : ¬ (100 : Int) < (te.size : Int) := by omega
  by_cases g3 : 100 < tp.size
  · have q3 : (100 : Int) < (tp.size : Int) := by omega
    (go_wp2_with fail; go_ret; exact ⟨rfl, H1.out.2⟩)
  have q3 : ¬ (100 : Int) < (tp.size : Int) := by omega
  go_upto_region 4 with fail
  clear k0 k1 k2 k3 k4 q2 q3
  go_wp2_with fail
  go_loop [16] (fun i => ∃ k : Nat, k ≤ n0 ∧ i = .int .i64 (k : Int) ∧ ∀ (q : Nat) (x : ElM), q < k → es[q]? = some x → x.bn ≤ 40) (fun i => n0 - (intOf i).toNat)
  case atStart => exact ⟨0, Nat.zero_le _, rfl, fun q x h => by omega⟩
  case round =>
    obtain ⟨k, hk, rfl, hall⟩ := hrel
    by_cases hlt : k < n0
    · have hlt' : (k : Int) < (n0 : Int) := by omega
      have hke : k < es.length := by rw [Hn0.out]; exact hlt
      obtain ⟨x, hx⟩ : ∃ x, es[k]? = some x := ⟨_, List.getElem?_eq_getElem hke⟩
      obtain ⟨eb, eo, e1, heb, hec⟩ := (HS0.out.go H1.out.2).2 (by omega)
      have hxc := elV_cells hec hx
      obtain ⟨⟨xe, xp, xm, xg, xx⟩, xj, xA, an, ac, xB, bn, bc⟩ := x
      have v6 : w1.cell? ⟨eb, eo + k * 8 + 6, none⟩ = some (.slice xA an ac) := hxc 6 _ rfl (by decide)
      have v7 : w1.cell? ⟨eb, eo + k * 8 + 7, none⟩ = some (.slice xB bn bc) := hxc 7 _ rfl (by decide)
      have Hall := Lib.hid hall
      have Hx := Lib.hid hx
      clear hec hxc hx hall hke heb
      subst e1
      by_cases ga : 40 < an
      · have qa : (40 : Int) < (an : Int) := by omega
        (go_wp2_with fail; go_ret; exact ⟨rfl, H1.out.2⟩)
      · have qa : ¬ (40 : Int) < (an : Int) := by omega
        by_cases gb : 40 < bn
        · have qb : (40 : Int) < (bn : Int) := by omega
          (go_wp2_with fail; go_ret; exact ⟨rfl, H1.out.2⟩)
        · have qb : ¬ (40 : Int) < (bn : Int) := by omega
          go_wp2_with fail
          go_round
          case rel =>
            refine ⟨k + 1, by omega, by go_num, fun q y hq hy => ?_⟩
            by_cases hqk : q = k
            · subst hqk
              have := Hx.out.symm.trans hy
              injection this with this
              rw [← this]
              show bn ≤ 40
              omega
            · exact Hall.out q y (by omega) hy
          case measure => simp [intOf]; omega
    · obtain rfl : n0 = k := by omega
      have hlt' : ¬ (n0 : Int) < (n0 : Int) := by omega
      have hbn : ∀ x ∈ es, x.bn ≤ 100 := by
        intro x hx
        obtain ⟨q, hq, rfl⟩ := List.getElem_of_mem hx
        exact Nat.le_trans (hall q _ (by rw [← Hn0.out]; exact hq) (List.getElem?_eq_getElem hq)) (by decide)
      have Hbn := Lib.hid hbn
      clear hall hbn
      go_wp2_with fail
      refine (mlist_any A3 n3 c3 qs Hn3.out (Nat.le_trans Hl.out.2.2.1 Hl.out.2.2.2) He3.out w1 (HS3.out.go H1.out.2)).mono ?_
      rintro e w2 ⟨v2, rfl, own2, hB2⟩
      obtain ⟨A2, c2, rfl, sl2, _, _⟩ := own_slice2 own2
      have H2 := Lib.hid (And.intro (bgo H1.out.2 hB2) (And.intro (hblk_go H1.out.1 hB2) sl2))
      clear own2 hB2 sl2
      go_wp2_with fail
      refine (issued_any A2 _ c2 (madeL qs) rfl (Nat.le_trans (madeL_len qs) (by decide)) (madeL_valid qs) w2 (HT.out.go H2.out.1).1 (HT.out.go H2.out.1).2 H2.out.2.2).mono ?_
      rintro e w3 ⟨v3, gs, rfl, own3, hiss, hB3⟩
      obtain ⟨rt, hrt⟩ : ∃ r, root29 = r := ⟨_, rfl⟩
      rw [hrt]
      clear hrt
      have hgl : gs.length ≤ 8 := by rw [hiss.1]; omega
      obtain ⟨m, hm⟩ : ∃ m, gs.length = m := ⟨_, rfl⟩
      rw [hm] at own3 hgl
      have Hm := Lib.hid hm
      have hgi := issL_in hiss
      have H3 := Lib.hid (And.intro (bgo H2.out.1 hB3) (And.intro (hblk_go H2.out.2.1 hB3) (And.intro own3 hgi)))
      clear own3 hiss hB3 hm hgi
      have hmkE := mkE90_run
      go_upto_region 10 with fail
      go_wp2_with (first
        | (at_builtin; refine app_src2 (w0 := w3) w3.heap.size (Nat.le_refl _) ?c0 rfl _ _ 22 rfl 33 i0 _ 8 112 Tryz.underlying22 hi0 hi1 hi2 hi3 rfl (by decide) (.slice (some ⟨w3.heap.size, 0, none⟩) 0 90) 0 [] rfl (mkE90_own w3) (bal (Below.refl _ _) _) v3 m (gs.flatMap elV) rfl ((own_src H3.out.2.2.1).al _) (els_one9 _) (by unfold maxLen; omega) (by omega) ?_)
        | go_in)
      case c0 => first | omega | (simp; omega) | (rw [World.size_alloc]; omega)
      intro v4 w4_ own4 bel4 kept4
      have hb4 : w3.heap.size ≤ w4_.heap.size := bel4.size
      have H4 := Lib.hid (And.intro own4 bel4)
      clear own4 bel4 kept4
      go_wp2_with (first
        | (at_builtin; refine app_src2 (w0 := w3) w3.heap.size (Nat.le_refl _) hb4 rfl _ _ 22 rfl 33 i0 _ 8 112 Tryz.underlying22 hi0 hi1 hi2 hi3 rfl (by decide) v4 m (gs.flatMap elV) rfl H4.out.1 H4.out.2 (.slice A0 n0 c0) n0 (es.flatMap elV) rfl (sl_src9 (HS0.out.go (bgo H3.out.1 H4.out.2)) Hz.out.1) (els_one9 _) (by unfold maxLen; omega) (by omega) ?_)
        | go_in)
      intro v5 w5_ own5 bel5 kept5
      have own5' : w5_.ownsRow w3.heap.size 33 8 v5 (m + n0) ((gs ++ es).flatMap elV) := by (have h := own5; rw [List.flatMap_append]; exact h)
      obtain ⟨A5, c5, rfl, sl5, cp51, cp52⟩ := own_slice2 own5'
      have H5 := Lib.hid (And.intro (bgo H3.out.1 bel5) (And.intro (hblk_go H3.out.2.1 bel5) (And.intro sl5 (And.intro cp51 cp52))))
      have Hin5 : Hid (∀ x ∈ gs ++ es, ElIn w5_ x ∧ x.bn ≤ 100) := Lib.hid fun x hx => by
        rcases List.mem_append.1 hx with h | h
        · exact ⟨(H3.out.2.2.2 x h).1.go bel5, (H3.out.2.2.2 x h).2⟩
        · exact ⟨(He0.out x h).go (bgo H3.out.1 bel5), Hbn.out x h⟩
      clear own5 own5' bel5 kept5 sl5 cp51 cp52 hmkE hb4
      obtain ⟨ra, Ta, hTa, pa, qa⟩ := accept_both rt 3 es n0 Hn0.out w He0.out Hbn.out
      obtain ⟨rb, Tb, hTb, pb, qb⟩ := accept_both rt 3 (gs ++ es) (m + n0) (by rw [List.length_append, Hm.out, Hn0.out]) w5_ (fun x hx => (Hin5.out x hx).1) (fun x hx => (Hin5.out x hx).2)
      have PA := Lib.hid (And.intro pa qa)
      have PB := Lib.hid (And.intro pb qb)
      clear pa qa pb qb
      go_upto_region 12 with fail
      obtain ⟨W6, hW6⟩ : ∃ W, W = w5_.alloc (.cells #[.slice A0 n0 c0, .slice A5 (m + n0) c5] 22) := ⟨_, rfl⟩
      obtain ⟨LB, hLB⟩ : ∃ i, i = w5_.heap.size := ⟨_, rfl⟩
      rw [← hW6]
      try rw [← hLB]
      have gL : W6.heap[LB]? = some (.cells #[.slice A0 n0 c0, .slice A5 (m + n0) c5] 22) := by rw [hW6, hLB]; exact World.alloc_heap_new _ _
      have hB56 : Below w5_.heap.size w5_ W6 := by rw [hW6]; exact bal (Below.refl _ _) _
      have H6 := Lib.hid (And.intro (bgo H5.out.1 hB56) (And.intro (hblk_go H5.out.2.1 hB56) (And.intro (H5.out.2.2.1.go hB56) gL)))
      have H56 := Lib.hid hB56
      clear hW6 hLB gL hB56
      go_loopw [15, 104] (fun u i wr => ∃ k : Nat, k ≤ 2 ∧ u = .bool true ∧ i = .int .i64 (k : Int) ∧ Below W6.heap.size W6 wr) (fun _ i _ => 2 - (intOf i).toNat)
      case atStart => exact ⟨0, by decide, rfl, rfl, Below.refl _ _⟩
      case round =>
        obtain ⟨k, hk, rfl, rfl, hBr⟩ := hrel
        have hk3 : k = 0 ∨ k = 1 ∨ k = 2 := by omega
        rcases hk3 with hk3 | hk3 | hk3
        · subst hk3
          have gr := hblk_go H6.out.2.2.2 hBr
          have lc : wr.cell? ⟨LB, 0, none⟩ = some (.slice A0 (n0) c0) := by rw [Lib.cell_of_heap gr]; rfl
          clear gr
          go_wp2_with fail
          refine (PA.out.1 A0 c0 wr (bgo H6.out.1 hBr) (HT.out.go (bgo H6.out.1 hBr)).ct (HT.out.go (bgo H6.out.1 hBr)).ot (HS0.out.go (bgo H6.out.1 hBr)) (Hl.out.1)).mono ?_
          rintro e wa ⟨va, rfl, owna, hBa⟩
          obtain ⟨Aa, ca, rfl, sla, _, _⟩ := own_slice2 owna
          have hBra := bgo hBr hBa
          have Ha := Lib.hid (And.intro sla hBra)
          clear lc owna sla hBra
          go_wp2_with fail
          refine (PA.out.2 A0 c0 wa (bgo H6.out.1 Ha.out.2) (HS0.out.go (bgo H6.out.1 Ha.out.2))).mono ?_
          rintro e wb ⟨vb, rfl, ownb, hBb⟩
          obtain ⟨Ab, cb, rfl, slb, _, _⟩ := own_slice2 ownb
          have Hb := Lib.hid (And.intro (Ha.out.1.go hBb) (And.intro slb (bgo Ha.out.2 hBb)))
          clear ownb slb hBa hBb
          go_wp2_with fail
          refine (same29_any Aa Ab ca cb Ta.length Ta.length Ta Ta rfl rfl (by omega) true (Lib.hid (decide_eq_true rfl)) wb Hb.out.1 Hb.out.2.1).mono ?_
          rintro e wd ⟨rfl, hBd⟩
          have Hd := Lib.hid (bgo Hb.out.2.2 hBd)
          clear hBd
          go_wp2_with fail
          go_roundw
          case rel => exact ⟨1, by decide, rfl, rfl, Hd.out⟩
          case measure => simp [intOf]
        · subst hk3
          have gr := hblk_go H6.out.2.2.2 hBr
          have lc : wr.cell? ⟨LB, 1, none⟩ = some (.slice A5 (m + n0) c5) := by rw [Lib.cell_of_heap gr]; rfl
          clear gr
          go_wp2_with fail
          refine (PB.out.1 A5 c5 wr (bgo H56.out hBr) (HT.out.go (bgo H6.out.1 hBr)).ct (HT.out.go (bgo H6.out.1 hBr)).ot (H6.out.2.2.1.go hBr) (H5.out.2.2.2)).mono ?_
          rintro e wa ⟨va, rfl, owna, hBa⟩
          obtain ⟨Aa, ca, rfl, sla, _, _⟩ := own_slice2 owna
          have hBra := bgo hBr hBa
          have Ha := Lib.hid (And.intro sla hBra)
          clear lc owna sla hBra
          go_wp2_with fail
          refine (PB.out.2 A5 c5 wa (bgo H56.out Ha.out.2) (H6.out.2.2.1.go Ha.out.2)).mono ?_
          rintro e wb ⟨vb, rfl, ownb, hBb⟩
          obtain ⟨Ab, cb, rfl, slb, _, _⟩ := own_slice2 ownb
          have Hb := Lib.hid (And.intro (Ha.out.1.go hBb) (And.intro slb (bgo Ha.out.2 hBb)))
          clear ownb slb hBa hBb
          go_wp2_with fail
          refine (same29_any Aa Ab ca cb Tb.length Tb.length Tb Tb rfl rfl (by omega) true (Lib.hid (decide_eq_true rfl)) wb Hb.out.1 Hb.out.2.1).mono ?_
          rintro e wd ⟨rfl, hBd⟩
          have Hd := Lib.hid (bgo Hb.out.2.2 hBd)
          clear hBd
          go_wp2_with fail
          go_roundw
          case rel => exact ⟨2, by decide, rfl, rfl, Hd.out⟩
          case measure => simp [intOf]
        · subst hk3
          obtain ⟨w7, hw7⟩ : ∃ z, z = wr := ⟨_, rfl⟩
          subst hw7
          have H7 := Lib.hid (And.intro (bgo H6.out.1 hBr) (hblk_go H6.out.2.1 hBr))
          clear hBr PA PB
          obtain ⟨er, sd, j, nc, np, cc, pp, hcc, hpp, hn1, hn2, IS1, IS2⟩ := issue_both te tp tm tg tx hsz.1 hsz.2 index
          have HI := Lib.hid (And.intro hcc (And.intro hpp (And.intro hn1 (And.intro hn2 (And.intro IS1 IS2)))))
          clear hcc hpp hn1 hn2 IS1 IS2
          have k0 : w7.cell? ⟨X, 0, none⟩ = some (.string te) := by rw [Lib.cell_of_heap H7.out.2]; rfl
          have k1 : w7.cell? ⟨X, 1, none⟩ = some (.string tp) := by rw [Lib.cell_of_heap H7.out.2]; rfl
          have k2 : w7.cell? ⟨X, 2, none⟩ = some (.int .i64 tm) := by rw [Lib.cell_of_heap H7.out.2]; rfl
          have k3 : w7.cell? ⟨X, 3, none⟩ = some (.int .i64 tg) := by rw [Lib.cell_of_heap H7.out.2]; rfl
          have k4 : w7.cell? ⟨X, 4, none⟩ = some (.int .i64 tx) := by rw [Lib.cell_of_heap H7.out.2]; rfl
          go_wp2_with fail
          refine (HI.out.2.2.2.2.1 w7 (HT.out.go H7.out.1).ct (HT.out.go H7.out.1).ot).mono ?_
          rintro e w8 ⟨A8, ca8, B8, cb8, rfl, sa8, sb8, hB8⟩
          have H8 := Lib.hid (And.intro (bgo H7.out.1 hB8) (And.intro (hblk_go H7.out.2 hB8) (And.intro sa8 sb8)))
          clear sa8 sb8 hB8
          go_upto_region 19 with fail
          obtain ⟨W9, hW9⟩ : ∃ W, W = w8.alloc (.cells #[.string sd.e, .string sd.p, .int .i64 sd.m, .int .i64 sd.g, .int .i64 sd.x, .int .i64 j, .slice A8 nc ca8, .slice B8 np cb8] 33) := ⟨_, rfl⟩
          obtain ⟨Y, hY⟩ : ∃ i, i = w8.heap.size := ⟨_, rfl⟩
          rw [← hW9]
          try rw [← hY]
          have gY : W9.heap[Y]? = some (.cells #[.string sd.e, .string sd.p, .int .i64 sd.m, .int .i64 sd.g, .int .i64 sd.x, .int .i64 j, .slice A8 nc ca8, .slice B8 np cb8] 33) := by rw [hW9, hY]; exact World.alloc_heap_new _ _
          have hB89 : Below w8.heap.size w8 W9 := by rw [hW9]; exact bal (Below.refl _ _) _
          have H9 := Lib.hid (And.intro (bgo H8.out.1 hB89) (And.intro (hblk_go H8.out.2.1 hB89) (And.intro (H8.out.2.2.1.go hB89) (And.intro (H8.out.2.2.2.go hB89) gY))))
          clear hW9 hY gY hB89
          have d0 : W9.cell? ⟨X, 0, none⟩ = some (.string te) := by rw [Lib.cell_of_heap H9.out.2.1]; rfl
          have d1 : W9.cell? ⟨X, 1, none⟩ = some (.string tp) := by rw [Lib.cell_of_heap H9.out.2.1]; rfl
          have d2 : W9.cell? ⟨X, 2, none⟩ = some (.int .i64 tm) := by rw [Lib.cell_of_heap H9.out.2.1]; rfl
          have d3 : W9.cell? ⟨X, 3, none⟩ = some (.int .i64 tg) := by rw [Lib.cell_of_heap H9.out.2.1]; rfl
          have d4 : W9.cell? ⟨X, 4, none⟩ = some (.int .i64 tx) := by rw [Lib.cell_of_heap H9.out.2.1]; rfl
          go_wp2_with fail
          refine (HI.out.2.2.2.2.2 W9 (HT.out.go H9.out.1).ot).mono ?_
          rintro e v8 ⟨A9, ca9, B9, cb9, rfl, sa9, sb9, hB9⟩
          have H10 := Lib.hid (And.intro (bgo H9.out.1 hB9) (And.intro (hblk_go H9.out.2.1 hB9) (And.intro sa9 (And.intro sb9 (And.intro (H9.out.2.2.1.go hB9) (And.intro (H9.out.2.2.2.1.go hB9) (hblk_go H9.out.2.2.2.2 hB9)))))))
          clear sa9 sb9 hB9
          go_upto_region 20 with fail
          obtain ⟨V9, hV9⟩ : ∃ W, W = v8.alloc (.cells #[.string sd.e, .string sd.p, .int .i64 sd.m, .int .i64 sd.g, .int .i64 sd.x, .int .i64 j, .slice A9 nc ca9, .slice B9 np cb9] 33) := ⟨_, rfl⟩
          obtain ⟨Z, hZ⟩ : ∃ i, i = v8.heap.size := ⟨_, rfl⟩
          rw [← hV9]
          try rw [← hZ]
          have gZ : V9.heap[Z]? = some (.cells #[.string sd.e, .string sd.p, .int .i64 sd.m, .int .i64 sd.g, .int .i64 sd.x, .int .i64 j, .slice A9 nc ca9, .slice B9 np cb9] 33) := by rw [hV9, hZ]; exact World.alloc_heap_new _ _
          have hB10 : Below v8.heap.size v8 V9 := by rw [hV9]; exact bal (Below.refl _ _) _
          obtain ⟨tt, htt⟩ : ∃ t, textT ⟨te, tp, tm, tg, tx⟩ = t := ⟨_, rfl⟩
          have Htt := Lib.hid (Lib.hid htt)
          clear htt
          have H11 := Lib.hid (And.intro (bgo H10.out.1 hB10) (And.intro (hblk_go H10.out.2.1 hB10) (And.intro (H10.out.2.2.1.go hB10) (And.intro (H10.out.2.2.2.1.go hB10) (And.intro (H10.out.2.2.2.2.1.go hB10) (And.intro (H10.out.2.2.2.2.2.1.go hB10) (And.intro (hblk_go H10.out.2.2.2.2.2.2 hB10) gZ)))))))
          clear hV9 hZ gZ hB10
          have HS := Lib.hid (show V9.drew.heap[X]? = some (.cells #[.string te, .string tp, .int .i64 tm, .int .i64 tg, .int .i64 tx] 25) ∧ V9.drew.heap[Y]? = some (.cells #[.string sd.e, .string sd.p, .int .i64 sd.m, .int .i64 sd.g, .int .i64 sd.x, .int .i64 j, .slice A8 nc ca8, .slice B8 np cb8] 33) ∧ V9.drew.heap[Z]? = some (.cells #[.string sd.e, .string sd.p, .int .i64 sd.m, .int .i64 sd.g, .int .i64 sd.x, .int .i64 j, .slice A9 nc ca9, .slice B9 np cb9] 33) ∧ Below V9.heap.size V9 V9.drew from ⟨H11.out.2.1, H11.out.2.2.2.2.2.2.1, H11.out.2.2.2.2.2.2.2, (Below.refl _ _).drew⟩)
          go_cut [15] (fun v wc => v = .bool true ∧ Below V9.heap.size V9 wc)
          case first =>
            refine wp_region_noPanic ?_
            refine wp_region_held_drew (S := fun W' => W'.heap[X]? = some (.cells #[.string te, .string tp, .int .i64 tm, .int .i64 tg, .int .i64 tx] 25) ∧ W'.heap[Y]? = some (.cells #[.string sd.e, .string sd.p, .int .i64 sd.m, .int .i64 sd.g, .int .i64 sd.x, .int .i64 j, .slice A8 nc ca8, .slice B8 np cb8] 33) ∧ W'.heap[Z]? = some (.cells #[.string sd.e, .string sd.p, .int .i64 sd.m, .int .i64 sd.g, .int .i64 sd.x, .int .i64 j, .slice A9 nc ca9, .slice B9 np cb9] 33) ∧ Below V9.heap.size V9 W') (by kernel_rfl) HS.out (fun hHeld => ?_)
            refine wpAnyH_take (i := 0) (v := ?_) rfl (by kernel_rfl) (by kernel_rfl) (by kernel_rfl) (fun _ _ _ h => h) (Or.inl ⟨by kernel_rfl, ?_⟩) (by assumption) ?_
            rotate_left
            · intro w hSw
              (try dsimp only at hSw)
              go_simp
              first | done | with_reducible rfl
            simp only [List.getElem_toArray, List.getElem_cons_zero, List.getElem_cons_succ, Act.put, List.setIfInBounds_toArray, List.set_cons_zero, List.set_cons_succ]
            refine wpAnyH_take (i := 1) (v := ?_) rfl (by kernel_rfl) (by kernel_rfl) (by kernel_rfl) (fun _ _ _ h => h) (Or.inl ⟨by kernel_rfl, ?_⟩) (by assumption) ?_
            rotate_left
            · intro w hSw
              (try dsimp only at hSw)
              go_simp
              first | done | with_reducible rfl
            simp only [List.getElem_toArray, List.getElem_cons_zero, List.getElem_cons_succ, Act.put, List.setIfInBounds_toArray, List.set_cons_zero, List.set_cons_succ]
            refine wpAnyH_take (i := 2) (v := ?_) rfl (by kernel_rfl) (by kernel_rfl) (by kernel_rfl) (fun _ _ _ h => h) (Or.inl ⟨by kernel_rfl, ?_⟩) (by assumption) ?_
            rotate_left
            · intro w hSw
              (try dsimp only at hSw)
              go_simp
              first | done | with_reducible rfl
            simp only [List.getElem_toArray, List.getElem_cons_zero, List.getElem_cons_succ, Act.put, List.setIfInBounds_toArray, List.set_cons_zero, List.set_cons_succ]
            refine wpAnyH_take (i := 3) (v := ?_) rfl (by kernel_rfl) (by kernel_rfl) (by kernel_rfl) (fun _ _ _ h => h) (Or.inl ⟨by kernel_rfl, ?_⟩) (by assumption) ?_
            rotate_left
            · intro w hSw
              (try dsimp only at hSw)
              go_simp
              first | done | with_reducible rfl
            simp only [List.getElem_toArray, List.getElem_cons_zero, List.getElem_cons_succ, Act.put, List.setIfInBounds_toArray, List.set_cons_zero, List.set_cons_succ]
            refine wpAnyH_take (i := 4) (v := (.bool true)) rfl (by kernel_rfl) (by kernel_rfl) (by kernel_rfl) (fun _ _ _ h => h) (Or.inl ⟨by kernel_rfl, ?_⟩) (by assumption) ?_
            · intro w hSw
              (try dsimp only at hSw)
              go_simp
              first | done | with_reducible rfl | (exact totEq_self _ _ _ _ _) | simp
            simp only [List.getElem_toArray, List.getElem_cons_zero, List.getElem_cons_succ, Act.put, List.setIfInBounds_toArray, List.set_cons_zero, List.set_cons_succ]
            refine wpAnyH_take (i := 5) (v := ?_) rfl (by kernel_rfl) (by kernel_rfl) (by kernel_rfl) (fun _ _ _ h => h) (Or.inl ⟨by kernel_rfl, ?_⟩) (by assumption) ?_
            rotate_left
            · intro w hSw
              (try dsimp only at hSw)
              go_simp
              first | done | with_reducible rfl
            simp only [List.getElem_toArray, List.getElem_cons_zero, List.getElem_cons_succ, Act.put, List.setIfInBounds_toArray, List.set_cons_zero, List.set_cons_succ]
            refine wpAnyH_take (i := 6) (v := ?_) rfl (by kernel_rfl) (by kernel_rfl) (by kernel_rfl) (fun _ _ _ h => h) (Or.inl ⟨by kernel_rfl, ?_⟩) (by assumption) ?_
            rotate_left
            · intro w hSw
              (try dsimp only at hSw)
              go_simp
              first | done | with_reducible rfl
            simp only [List.getElem_toArray, List.getElem_cons_zero, List.getElem_cons_succ, Act.put, List.setIfInBounds_toArray, List.set_cons_zero, List.set_cons_succ]
            refine wpAnyH_take (i := 7) (v := ?_) rfl (by kernel_rfl) (by kernel_rfl) (by kernel_rfl) (fun _ _ _ h => h) (Or.inl ⟨by kernel_rfl, ?_⟩) (by assumption) ?_
            rotate_left
            · intro w hSw
              (try dsimp only at hSw)
              go_simp
              first | done | with_reducible rfl
            simp only [List.getElem_toArray, List.getElem_cons_zero, List.getElem_cons_succ, Act.put, List.setIfInBounds_toArray, List.set_cons_zero, List.set_cons_succ]
            refine wpAnyH_take (i := 8) (v := ?_) rfl (by kernel_rfl) (by kernel_rfl) (by kernel_rfl) (fun _ _ _ h => h) (Or.inl ⟨by kernel_rfl, ?_⟩) (by assumption) ?_
            rotate_left
            · intro w hSw
              (try dsimp only at hSw)
              have z0 : w.cell? ⟨Y, 0, none⟩ = some (.string sd.e) := by rw [Lib.cell_of_heap hSw.2.1]; rfl
              have z1 : w.cell? ⟨Y, 1, none⟩ = some (.string sd.p) := by rw [Lib.cell_of_heap hSw.2.1]; rfl
              have z2 : w.cell? ⟨Y, 2, none⟩ = some (.int .i64 sd.m) := by rw [Lib.cell_of_heap hSw.2.1]; rfl
              have z3 : w.cell? ⟨Y, 3, none⟩ = some (.int .i64 sd.g) := by rw [Lib.cell_of_heap hSw.2.1]; rfl
              have z4 : w.cell? ⟨Y, 4, none⟩ = some (.int .i64 sd.x) := by rw [Lib.cell_of_heap hSw.2.1]; rfl
              clear hSw
              go_simp
              first | done | with_reducible rfl
            simp only [List.getElem_toArray, List.getElem_cons_zero, List.getElem_cons_succ, Act.put, List.setIfInBounds_toArray, List.set_cons_zero, List.set_cons_succ]
            refine wpAnyH_take (i := 9) (v := ?_) rfl (by kernel_rfl) (by kernel_rfl) (by kernel_rfl) (fun _ _ _ h => h) (Or.inl ⟨by kernel_rfl, ?_⟩) (by assumption) ?_
            rotate_left
            · intro w hSw
              (try dsimp only at hSw)
              go_simp
              first | done | with_reducible rfl
            simp only [List.getElem_toArray, List.getElem_cons_zero, List.getElem_cons_succ, Act.put, List.setIfInBounds_toArray, List.set_cons_zero, List.set_cons_succ]
            refine wpAnyH_take (i := 10) (v := ?_) rfl (by kernel_rfl) (by kernel_rfl) (by kernel_rfl) (fun _ _ _ h => h) (Or.inl ⟨by kernel_rfl, ?_⟩) (by assumption) ?_
            rotate_left
            · intro w hSw
              (try dsimp only at hSw)
              have z0 : w.cell? ⟨Z, 0, none⟩ = some (.string sd.e) := by rw [Lib.cell_of_heap hSw.2.2.1]; rfl
              have z1 : w.cell? ⟨Z, 1, none⟩ = some (.string sd.p) := by rw [Lib.cell_of_heap hSw.2.2.1]; rfl
              have z2 : w.cell? ⟨Z, 2, none⟩ = some (.int .i64 sd.m) := by rw [Lib.cell_of_heap hSw.2.2.1]; rfl
              have z3 : w.cell? ⟨Z, 3, none⟩ = some (.int .i64 sd.g) := by rw [Lib.cell_of_heap hSw.2.2.1]; rfl
              have z4 : w.cell? ⟨Z, 4, none⟩ = some (.int .i64 sd.x) := by rw [Lib.cell_of_heap hSw.2.2.1]; rfl
              clear hSw
              go_simp
              first | done | with_reducible rfl
            simp only [List.getElem_toArray, List.getElem_cons_zero, List.getElem_cons_succ, Act.put, List.setIfInBounds_toArray, List.set_cons_zero, List.set_cons_succ]
            refine wpAnyH_take (i := 11) (v := (.bool true)) rfl (by kernel_rfl) (by kernel_rfl) (by kernel_rfl) (fun _ _ _ h => h) (Or.inl ⟨by kernel_rfl, ?_⟩) (by assumption) ?_
            · intro w hSw
              (try dsimp only at hSw)
              go_simp
              first | done | with_reducible rfl | (exact totEq_self _ _ _ _ _) | simp
            simp only [List.getElem_toArray, List.getElem_cons_zero, List.getElem_cons_succ, Act.put, List.setIfInBounds_toArray, List.set_cons_zero, List.set_cons_succ]
            refine wpAnyH_take (i := 12) (v := ?_) rfl (by kernel_rfl) (by kernel_rfl) (by kernel_rfl) (fun _ _ _ h => h) (Or.inl ⟨by kernel_rfl, ?_⟩) (by assumption) ?_
            rotate_left
            · intro w hSw
              (try dsimp only at hSw)
              go_simp
              first | done | with_reducible rfl
            simp only [List.getElem_toArray, List.getElem_cons_zero, List.getElem_cons_succ, Act.put, List.setIfInBounds_toArray, List.set_cons_zero, List.set_cons_succ]
            refine wpAnyH_take (i := 13) (v := ?_) rfl (by kernel_rfl) (by kernel_rfl) (by kernel_rfl) (fun _ _ _ h => h) (Or.inl ⟨by kernel_rfl, ?_⟩) (by assumption) ?_
            rotate_left
            · intro w hSw
              (try dsimp only at hSw)
              go_simp
              first | done | with_reducible rfl
            simp only [List.getElem_toArray, List.getElem_cons_zero, List.getElem_cons_succ, Act.put, List.setIfInBounds_toArray, List.set_cons_zero, List.set_cons_succ]
            refine wpAnyH_take (i := 14) (v := ?_) rfl (by kernel_rfl) (by kernel_rfl) (by kernel_rfl) (fun _ _ _ h => h) (Or.inl ⟨by kernel_rfl, ?_⟩) (by assumption) ?_
            rotate_left
            · intro w hSw
              (try dsimp only at hSw)
              go_simp
              first | done | with_reducible rfl
            simp only [List.getElem_toArray, List.getElem_cons_zero, List.getElem_cons_succ, Act.put, List.setIfInBounds_toArray, List.set_cons_zero, List.set_cons_succ]
            refine wpAnyH_take (i := 15) (v := ?_) rfl (by kernel_rfl) (by kernel_rfl) (by kernel_rfl) (fun _ _ _ h => h) (Or.inl ⟨by kernel_rfl, ?_⟩) (by assumption) ?_
            rotate_left
            · intro w hSw
              (try dsimp only at hSw)
              have z0 : w.cell? ⟨Y, 5, none⟩ = some (.int .i64 j) := by rw [Lib.cell_of_heap hSw.2.1]; rfl
              have z1 : w.cell? ⟨Y, 6, none⟩ = some (.slice A8 nc ca8) := by rw [Lib.cell_of_heap hSw.2.1]; rfl
              have z2 : w.cell? ⟨Y, 7, none⟩ = some (.slice B8 np cb8) := by rw [Lib.cell_of_heap hSw.2.1]; rfl
              clear hSw
              go_simp
              first | done | with_reducible rfl
            simp only [List.getElem_toArray, List.getElem_cons_zero, List.getElem_cons_succ, Act.put, List.setIfInBounds_toArray, List.set_cons_zero, List.set_cons_succ]
            refine wpAnyH_take (i := 16) (v := ?_) rfl (by kernel_rfl) (by kernel_rfl) (by kernel_rfl) (fun _ _ _ h => h) (Or.inl ⟨by kernel_rfl, ?_⟩) (by assumption) ?_
            rotate_left
            · intro w hSw
              (try dsimp only at hSw)
              go_simp
              first | done | with_reducible rfl
            simp only [List.getElem_toArray, List.getElem_cons_zero, List.getElem_cons_succ, Act.put, List.setIfInBounds_toArray, List.set_cons_zero, List.set_cons_succ]
            refine wpAnyH_take (i := 17) (v := ?_) rfl (by kernel_rfl) (by kernel_rfl) (by kernel_rfl) (fun _ _ _ h => h) (Or.inl ⟨by kernel_rfl, ?_⟩) (by assumption) ?_
            rotate_left
            · intro w hSw
              (try dsimp only at hSw)
              have z0 : w.cell? ⟨Z, 5, none⟩ = some (.int .i64 j) := by rw [Lib.cell_of_heap hSw.2.2.1]; rfl
              have z1 : w.cell? ⟨Z, 6, none⟩ = some (.slice A9 nc ca9) := by rw [Lib.cell_of_heap hSw.2.2.1]; rfl
              have z2 : w.cell? ⟨Z, 7, none⟩ = some (.slice B9 np cb9) := by rw [Lib.cell_of_heap hSw.2.2.1]; rfl
              clear hSw
              go_simp
              first | done | with_reducible rfl
            simp only [List.getElem_toArray, List.getElem_cons_zero, List.getElem_cons_succ, Act.put, List.setIfInBounds_toArray, List.set_cons_zero, List.set_cons_succ]
            refine wpAnyH_ready (rs := [18]) (by kernel_rfl) (by simp) ?_
            refine AllReadyH.cons rfl (fun K hK => ?_) ?_
            · simp only [List.getElem_toArray, List.getElem_cons_zero, List.getElem_cons_succ]
              go_simp
              have hSt := hHeld
              (with_reducible refine (rsamesig_any j A8 B8 A9 B9 ca8 cb8 ca9 cb9 nc np cc pp HI.out.1 HI.out.2.1 HI.out.2.2.1 HI.out.2.2.2.1 V9.drew (H11.out.2.2.2.2.1.go hSt.2.2.2) (H11.out.2.2.2.2.2.1.go hSt.2.2.2) (H11.out.2.2.1.go hSt.2.2.2) (H11.out.2.2.2.1.go hSt.2.2.2)).mono ?_)
              rintro e wc0 ⟨rfl, hBwc0⟩
              dsimp only
              have Swc0 := show wc0.heap[X]? = some (.cells #[.string te, .string tp, .int .i64 tm, .int .i64 tg, .int .i64 tx] 25) ∧ wc0.heap[Y]? = some (.cells #[.string sd.e, .string sd.p, .int .i64 sd.m, .int .i64 sd.g, .int .i64 sd.x, .int .i64 j, .slice A8 nc ca8, .slice B8 np cb8] 33) ∧ wc0.heap[Z]? = some (.cells #[.string sd.e, .string sd.p, .int .i64 sd.m, .int .i64 sd.g, .int .i64 sd.x, .int .i64 j, .slice A9 nc ca9, .slice B9 np cb9] 33) ∧ Below V9.heap.size V9 wc0 from ⟨hblk_go hSt.1 hBwc0, hblk_go hSt.2.1 hBwc0, hblk_go hSt.2.2.1 hBwc0, bgo hSt.2.2.2 hBwc0⟩
              clear hSt
              refine hK.out _ wc0 Swc0 (fun hHeld => ?_)
              clear hK K
              try simp only [List.getElem_toArray, List.getElem_cons_zero, List.getElem_cons_succ, Act.put, List.setIfInBounds_toArray, List.set_cons_zero, List.set_cons_succ]
              refine wpAnyH_take (i := 19) (v := ?_) rfl (by kernel_rfl) (by kernel_rfl) (by kernel_rfl) (fun _ _ _ h => h) (Or.inl ⟨by kernel_rfl, ?_⟩) (by assumption) ?_
              rotate_left
              · intro w hSw
                (try dsimp only at hSw)
                go_simp
                first | done | with_reducible rfl
              simp only [List.getElem_toArray, List.getElem_cons_zero, List.getElem_cons_succ, Act.put, List.setIfInBounds_toArray, List.set_cons_zero, List.set_cons_succ]
              refine wpAnyH_take (i := 20) (v := ?_) rfl (by kernel_rfl) (by kernel_rfl) (by kernel_rfl) (fun _ _ _ h => h) (Or.inl ⟨by kernel_rfl, ?_⟩) (by assumption) ?_
              rotate_left
              · intro w hSw
                (try dsimp only at hSw)
                go_simp
                first | done | with_reducible rfl
              simp only [List.getElem_toArray, List.getElem_cons_zero, List.getElem_cons_succ, Act.put, List.setIfInBounds_toArray, List.set_cons_zero, List.set_cons_succ]
              refine wpAnyH_take (i := 21) (v := ?_) rfl (by kernel_rfl) (by kernel_rfl) (by kernel_rfl) (fun _ _ _ h => h) (Or.inl ⟨by kernel_rfl, ?_⟩) (by assumption) ?_
              rotate_left
              · intro w hSw
                (try dsimp only at hSw)
                have z0 : w.cell? ⟨X, 0, none⟩ = some (.string te) := by rw [Lib.cell_of_heap hSw.1]; rfl
                have z1 : w.cell? ⟨X, 1, none⟩ = some (.string tp) := by rw [Lib.cell_of_heap hSw.1]; rfl
                have z2 : w.cell? ⟨X, 2, none⟩ = some (.int .i64 tm) := by rw [Lib.cell_of_heap hSw.1]; rfl
                have z3 : w.cell? ⟨X, 3, none⟩ = some (.int .i64 tg) := by rw [Lib.cell_of_heap hSw.1]; rfl
                have z4 : w.cell? ⟨X, 4, none⟩ = some (.int .i64 tx) := by rw [Lib.cell_of_heap hSw.1]; rfl
                clear hSw
                go_simp
                first | done | with_reducible rfl
              simp only [List.getElem_toArray, List.getElem_cons_zero, List.getElem_cons_succ, Act.put, List.setIfInBounds_toArray, List.set_cons_zero, List.set_cons_succ]
              refine wpAnyH_take (i := 23) (v := ?_) rfl (by kernel_rfl) (by kernel_rfl) (by kernel_rfl) (fun _ _ _ h => h) (Or.inl ⟨by kernel_rfl, ?_⟩) (by assumption) ?_
              rotate_left
              · intro w hSw
                (try dsimp only at hSw)
                have z0 : w.cell? ⟨X, 0, none⟩ = some (.string te) := by rw [Lib.cell_of_heap hSw.1]; rfl
                have z1 : w.cell? ⟨X, 1, none⟩ = some (.string tp) := by rw [Lib.cell_of_heap hSw.1]; rfl
                have z2 : w.cell? ⟨X, 2, none⟩ = some (.int .i64 tm) := by rw [Lib.cell_of_heap hSw.1]; rfl
                have z3 : w.cell? ⟨X, 3, none⟩ = some (.int .i64 tg) := by rw [Lib.cell_of_heap hSw.1]; rfl
                have z4 : w.cell? ⟨X, 4, none⟩ = some (.int .i64 tx) := by rw [Lib.cell_of_heap hSw.1]; rfl
                clear hSw
                go_simp
                first | done | with_reducible rfl
              simp only [List.getElem_toArray, List.getElem_cons_zero, List.getElem_cons_succ, Act.put, List.setIfInBounds_toArray, List.set_cons_zero, List.set_cons_succ]
              refine wpAnyH_ready (rs := [22]) (by kernel_rfl) (by simp) ?_
              refine AllReadyH.cons rfl (fun K hK => ?_) ?_
              · simp only [List.getElem_toArray, List.getElem_cons_zero, List.getElem_cons_succ]
                go_simp
                have hSt := hHeld
                (with_reducible refine (text29_any te tp tm tg tx tt Htt.out wc0 hsz.1 hsz.2 (HT.out.go (bgo H11.out.1 hSt.2.2.2)).ct).mono ?_)
                rintro e wc1 ⟨rfl, hBwc1⟩
                dsimp only
                have Swc1 := show wc1.heap[X]? = some (.cells #[.string te, .string tp, .int .i64 tm, .int .i64 tg, .int .i64 tx] 25) ∧ wc1.heap[Y]? = some (.cells #[.string sd.e, .string sd.p, .int .i64 sd.m, .int .i64 sd.g, .int .i64 sd.x, .int .i64 j, .slice A8 nc ca8, .slice B8 np cb8] 33) ∧ wc1.heap[Z]? = some (.cells #[.string sd.e, .string sd.p, .int .i64 sd.m, .int .i64 sd.g, .int .i64 sd.x, .int .i64 j, .slice A9 nc ca9, .slice B9 np cb9] 33) ∧ Below V9.heap.size V9 wc1 from ⟨hblk_go hSt.1 hBwc1, hblk_go hSt.2.1 hBwc1, hblk_go hSt.2.2.1 hBwc1, bgo hSt.2.2.2 hBwc1⟩
                clear hSt
                refine hK.out _ wc1 Swc1 (fun hHeld => ?_)
                clear hK K
                try simp only [List.getElem_toArray, List.getElem_cons_zero, List.getElem_cons_succ, Act.put, List.setIfInBounds_toArray, List.set_cons_zero, List.set_cons_succ]
                refine wpAnyH_ready (rs := [24]) (by kernel_rfl) (by simp) ?_
                refine AllReadyH.cons rfl (fun K hK => ?_) ?_
                · simp only [List.getElem_toArray, List.getElem_cons_zero, List.getElem_cons_succ]
                  go_simp
                  have hSt := hHeld
                  (with_reducible refine (rtext29_any te tp tm tg tx tt Htt.out wc1 hsz.1 hsz.2).mono ?_)
                  rintro e wc2 ⟨rfl, hBwc2⟩
                  dsimp only
                  have Swc2 := show wc2.heap[X]? = some (.cells #[.string te, .string tp, .int .i64 tm, .int .i64 tg, .int .i64 tx] 25) ∧ wc2.heap[Y]? = some (.cells #[.string sd.e, .string sd.p, .int .i64 sd.m, .int .i64 sd.g, .int .i64 sd.x, .int .i64 j, .slice A8 nc ca8, .slice B8 np cb8] 33) ∧ wc2.heap[Z]? = some (.cells #[.string sd.e, .string sd.p, .int .i64 sd.m, .int .i64 sd.g, .int .i64 sd.x, .int .i64 j, .slice A9 nc ca9, .slice B9 np cb9] 33) ∧ Below V9.heap.size V9 wc2 from ⟨hblk_go hSt.1 hBwc2, hblk_go hSt.2.1 hBwc2, hblk_go hSt.2.2.1 hBwc2, bgo hSt.2.2.2 hBwc2⟩
                  clear hSt
                  refine hK.out _ wc2 Swc2 (fun hHeld => ?_)
                  clear hK K
                  try simp only [List.getElem_toArray, List.getElem_cons_zero, List.getElem_cons_succ, Act.put, List.setIfInBounds_toArray, List.set_cons_zero, List.set_cons_succ]
                  refine wpAnyH_take (i := 25) (v := (.bool true)) rfl (by kernel_rfl) (by kernel_rfl) (by kernel_rfl) (fun _ _ _ h => h) (Or.inl ⟨by kernel_rfl, ?_⟩) (by assumption) ?_
                  · intro w hSw
                    (try dsimp only at hSw)
                    go_simp
                    first | done | with_reducible rfl | (exact totEq_self _ _ _ _ _) | simp
                  simp only [List.getElem_toArray, List.getElem_cons_zero, List.getElem_cons_succ, Act.put, List.setIfInBounds_toArray, List.set_cons_zero, List.set_cons_succ]
                  refine wpAnyH_take (i := 26) (v := ?_) rfl (by kernel_rfl) (by kernel_rfl) (by kernel_rfl) (fun _ _ _ h => h) (Or.inl ⟨by kernel_rfl, ?_⟩) (by assumption) ?_
                  rotate_left
                  · intro w hSw
                    (try dsimp only at hSw)
                    go_simp
                    first | done | with_reducible rfl
                  simp only [List.getElem_toArray, List.getElem_cons_zero, List.getElem_cons_succ, Act.put, List.setIfInBounds_toArray, List.set_cons_zero, List.set_cons_succ]
                  refine wpAnyH_take (i := 27) (v := ?_) rfl (by kernel_rfl) (by kernel_rfl) (by kernel_rfl) (fun _ _ _ h => h) (Or.inl ⟨by kernel_rfl, ?_⟩) (by assumption) ?_
                  rotate_left
                  · intro w hSw
                    (try dsimp only at hSw)
                    go_simp
                    first | done | with_reducible rfl
                  simp only [List.getElem_toArray, List.getElem_cons_zero, List.getElem_cons_succ, Act.put, List.setIfInBounds_toArray, List.set_cons_zero, List.set_cons_succ]
                  refine wpAnyH_done (by kernel_rfl) ?_ _
                  dsimp only [NoPanic]
                  have hBz := hHeld.2.2.2
                  clear hHeld
                  go_wp2_with fail
                  go_meet
                  exact ⟨rfl, hBz⟩
                exact AllReadyH.nil
              exact AllReadyH.nil
            exact AllReadyH.nil
          obtain ⟨rfl, hBc⟩ := hcut
          have H12 := Lib.hid (bgo H11.out.1 hBc)
          clear hBc HS
          go_wp2_with fail
          refine (mlist_any A3 n3 c3 qs Hn3.out (Nat.le_trans Hl.out.2.2.1 Hl.out.2.2.2) He3.out wc (HS3.out.go H12.out)).mono ?_
          rintro e y1 ⟨u1_, rfl, owny1, hBy1⟩
          obtain ⟨A10, c10, rfl, sl10, _, _⟩ := own_slice2 owny1
          have H13 := Lib.hid (And.intro (bgo H12.out hBy1) sl10)
          clear owny1 hBy1 sl10
          go_wp2_with fail
          refine (mlist_any A3 n3 c3 qs Hn3.out (Nat.le_trans Hl.out.2.2.1 Hl.out.2.2.2) He3.out y1 (HS3.out.go H13.out.1)).mono ?_
          rintro e y2 ⟨u2_, rfl, owny2, hBy2⟩
          have H14 := Lib.hid (And.intro (bgo H13.out.1 hBy2) (And.intro (H13.out.2.go hBy2) (And.intro owny2 hBy2)))
          clear owny2 hBy2
          obtain ⟨A11, c11, hu2, _, _, _⟩ := own_slice2 H14.out.2.2.1
          subst hu2
          have hml := madeL_len qs
          go_wp2_with (at_builtin; refine app_src2 (w0 := y1) y1.heap.size (Nat.le_refl _) H14.out.2.2.2.size rfl _ _ 23 rfl 25 j0 _ 5 56 Tryz.underlying23 hj0 hj1 hj2 hj3 rfl (by decide) _ _ _ rfl H14.out.2.2.1 H14.out.2.2.2 (.slice A1 n1 c1) n1 (ts.flatMap totL5) rfl (sl_src9 (HS1.out.go H14.out.1) Hz.out.2) (tots_one9 _) (by unfold maxLen; omega) (by omega) ?_)
          intro v12 y3 own3 bel3 kept3
          have own3' : y3.ownsRow y1.heap.size 25 5 v12 ((madeL qs).length + n1) ((madeL qs ++ ts).flatMap totL5) := by (have h := own3; rw [List.flatMap_append]; exact h)
          obtain ⟨A12, c12, rfl, sl12, _, _⟩ := own_slice2 own3'
          have H15 := Lib.hid (And.intro (bgo H13.out.1 bel3) (And.intro (H13.out.2.go bel3) sl12))
          clear own3 own3' bel3 kept3 sl12
          go_upto_region 22 with fail
          obtain ⟨W6, hW6⟩ : ∃ W, W = y3.alloc (.cells #[.slice A1 n1 c1, .slice A10 (madeL qs).length c10, .slice A12 ((madeL qs).length + n1) c12] 23) := ⟨_, rfl⟩
          obtain ⟨LC, hLC⟩ : ∃ i, i = y3.heap.size := ⟨_, rfl⟩
          rw [← hW6]
          try rw [← hLC]
          have gL : W6.heap[LC]? = some (.cells #[.slice A1 n1 c1, .slice A10 (madeL qs).length c10, .slice A12 ((madeL qs).length + n1) c12] 23) := by rw [hW6, hLC]; exact World.alloc_heap_new _ _
          have hB36 : Below y3.heap.size y3 W6 := by rw [hW6]; exact bal (Below.refl _ _) _
          have H16 := Lib.hid (And.intro (bgo H15.out.1 hB36) (And.intro (H15.out.2.1.go hB36) (And.intro (H15.out.2.2.go hB36) gL)))
          clear hW6 hLC gL hB36
          obtain ⟨pm, hpm⟩ : ∃ q, pickF month 42 = q := ⟨_, rfl⟩
          have hpmb := pickF_lt month 42 (by omega)
          rw [hpm] at hpmb
          have Hpm := Lib.hid hpm
          clear hpm
          obtain ⟨Ga, Xa, pa, qa⟩ := before_both ts n1 Hn1.out (by omega) person month (fun t ht => (He1.out t ht).sz)
          obtain ⟨Gb, Xb, pb, qb⟩ := before_both ts n1 Hn1.out (by omega) ⟨#[97, 110, 110]⟩ (270 + pm) (fun t ht => (He1.out t ht).sz)
          have PA := Lib.hid (And.intro pa (And.intro qa (And.intro pb qb)))
          clear pa qa pb qb
          obtain ⟨Gc, Xc, pa, qa⟩ := before_both (madeL qs) (madeL qs).length rfl (by omega) person month (fun t ht => valid_sz (madeL_valid qs t ht))
          obtain ⟨Gd, Xd, pb, qb⟩ := before_both (madeL qs) (madeL qs).length rfl (by omega) ⟨#[97, 110, 110]⟩ (270 + pm) (fun t ht => valid_sz (madeL_valid qs t ht))
          have PB := Lib.hid (And.intro pa (And.intro qa (And.intro pb qb)))
          clear pa qa pb qb
          have hmx : ∀ t ∈ madeL qs ++ ts, t.e.size ≤ maxLen ∧ t.p.size ≤ maxLen := fun t ht => by
            rcases List.mem_append.1 ht with h | h
            · exact valid_sz (madeL_valid qs t h)
            · exact (He1.out t h).sz
          have hmxl : (madeL qs ++ ts).length = (madeL qs).length + n1 := by rw [List.length_append, Hn1.out]
          obtain ⟨Ge, Xe, pa, qa⟩ := before_both (madeL qs ++ ts) ((madeL qs).length + n1) hmxl (by omega) person month hmx
          obtain ⟨Gf, Xf, pb, qb⟩ := before_both (madeL qs ++ ts) ((madeL qs).length + n1) hmxl (by omega) ⟨#[97, 110, 110]⟩ (270 + pm) hmx
          have PC := Lib.hid (And.intro pa (And.intro qa (And.intro pb qb)))
          clear pa qa pb qb hmx hmxl
          go_loopw [15, 180] (fun u i wr => ∃ k : Nat, k ≤ 3 ∧ u = .bool true ∧ i = .int .i64 (k : Int) ∧ Below W6.heap.size W6 wr) (fun _ i _ => 3 - (intOf i).toNat)
          case atStart => exact ⟨0, by decide, rfl, rfl, Below.refl _ _⟩
          case round =>
            obtain ⟨k, hk, rfl, rfl, hBr⟩ := hrel
            have hk3 : k = 0 ∨ k = 1 ∨ k = 2 ∨ k = 3 := by omega
            rcases hk3 with hk3 | hk3 | hk3 | hk3
            · subst hk3
              have gr := hblk_go H16.out.2.2.2 hBr
              have lc : wr.cell? ⟨LC, 0, none⟩ = some (.slice A1 n1 c1) := by rw [Lib.cell_of_heap gr]; rfl
              clear gr
              go_wp2_with fail
              refine (PA.out.1 A1 c1 wr (HS1.out.go (bgo H16.out.1 hBr))).mono ?_
              rintro e wa ⟨rfl, hBa⟩
              have Ha := Lib.hid (bgo hBr hBa)
              clear lc hBr hBa
              go_wp2_with fail
              refine (PA.out.2.1 A1 c1 wa (HS1.out.go (bgo H16.out.1 Ha.out))).mono ?_
              rintro e wb ⟨rfl, hBb⟩
              have Hb := Lib.hid (bgo Ha.out hBb)
              clear hBb
              go_wp2_with fail
              refine (pick_at month 42 pm Hpm wb Hw.out.1 (by decide) (by decide)).mono ?_
              rintro e wq ⟨rfl, hwq⟩
              obtain rfl := hwq
              go_wp2_with fail
              refine (PA.out.2.2.1 A1 c1 wb (HS1.out.go (bgo H16.out.1 Hb.out))).mono ?_
              rintro e wd ⟨rfl, hBd⟩
              have Hd := Lib.hid (bgo Hb.out hBd)
              clear hBd
              go_wp2_with fail
              refine (pick_at month 42 pm Hpm wd Hw.out.1 (by decide) (by decide)).mono ?_
              rintro e wq ⟨rfl, hwq⟩
              obtain rfl := hwq
              go_wp2_with fail
              refine (PA.out.2.2.2 A1 c1 wd (HS1.out.go (bgo H16.out.1 Hd.out))).mono ?_
              rintro e we ⟨rfl, hBe⟩
              have He := Lib.hid (bgo Hd.out hBe)
              clear hBe
              go_wp2_with fail
              go_roundw
              case rel => exact ⟨1, by decide, rfl, rfl, He.out⟩
              case measure => simp [intOf]
            · subst hk3
              have gr := hblk_go H16.out.2.2.2 hBr
              have lc : wr.cell? ⟨LC, 1, none⟩ = some (.slice A10 (madeL qs).length c10) := by rw [Lib.cell_of_heap gr]; rfl
              clear gr
              go_wp2_with fail
              refine (PB.out.1 A10 c10 wr (H16.out.2.1.go hBr)).mono ?_
              rintro e wa ⟨rfl, hBa⟩
              have Ha := Lib.hid (bgo hBr hBa)
              clear lc hBr hBa
              go_wp2_with fail
              refine (PB.out.2.1 A10 c10 wa (H16.out.2.1.go Ha.out)).mono ?_
              rintro e wb ⟨rfl, hBb⟩
              have Hb := Lib.hid (bgo Ha.out hBb)
              clear hBb
              go_wp2_with fail
              refine (pick_at month 42 pm Hpm wb Hw.out.1 (by decide) (by decide)).mono ?_
              rintro e wq ⟨rfl, hwq⟩
              obtain rfl := hwq
              go_wp2_with fail
              refine (PB.out.2.2.1 A10 c10 wb (H16.out.2.1.go Hb.out)).mono ?_
              rintro e wd ⟨rfl, hBd⟩
              have Hd := Lib.hid (bgo Hb.out hBd)
              clear hBd
              go_wp2_with fail
              refine (pick_at month 42 pm Hpm wd Hw.out.1 (by decide) (by decide)).mono ?_
              rintro e wq ⟨rfl, hwq⟩
              obtain rfl := hwq
              go_wp2_with fail
              refine (PB.out.2.2.2 A10 c10 wd (H16.out.2.1.go Hd.out)).mono ?_
              rintro e we ⟨rfl, hBe⟩
              have He := Lib.hid (bgo Hd.out hBe)
              clear hBe
              go_wp2_with fail
              go_roundw
              case rel => exact ⟨2, by decide, rfl, rfl, He.out⟩
              case measure => simp [intOf]
            · subst hk3
              have gr := hblk_go H16.out.2.2.2 hBr
              have lc : wr.cell? ⟨LC, 2, none⟩ = some (.slice A12 ((madeL qs).length + n1) c12) := by rw [Lib.cell_of_heap gr]; rfl
              clear gr
              go_wp2_with fail
              refine (PC.out.1 A12 c12 wr (H16.out.2.2.1.go hBr)).mono ?_
              rintro e wa ⟨rfl, hBa⟩
              have Ha := Lib.hid (bgo hBr hBa)
              clear lc hBr hBa
              go_wp2_with fail
              refine (PC.out.2.1 A12 c12 wa (H16.out.2.2.1.go Ha.out)).mono ?_
              rintro e wb ⟨rfl, hBb⟩
              have Hb := Lib.hid (bgo Ha.out hBb)
              clear hBb
              go_wp2_with fail
              refine (pick_at month 42 pm Hpm wb Hw.out.1 (by decide) (by decide)).mono ?_
              rintro e wq ⟨rfl, hwq⟩
              obtain rfl := hwq
              go_wp2_with fail
              refine (PC.out.2.2.1 A12 c12 wb (H16.out.2.2.1.go Hb.out)).mono ?_
              rintro e wd ⟨rfl, hBd⟩
              have Hd := Lib.hid (bgo Hb.out hBd)
              clear hBd
              go_wp2_with fail
              refine (pick_at month 42 pm Hpm wd Hw.out.1 (by decide) (by decide)).mono ?_
              rintro e wq ⟨rfl, hwq⟩
              obtain rfl := hwq
              go_wp2_with fail
              refine (PC.out.2.2.2 A12 c12 wd (H16.out.2.2.1.go Hd.out)).mono ?_
              rintro e we ⟨rfl, hBe⟩
              have He := Lib.hid (bgo Hd.out hBe)
              clear hBe
              go_wp2_with fail
              go_roundw
              case rel => exact ⟨3, by decide, rfl, rfl, He.out⟩
              case measure => simp [intOf]
            · subst hk3
              have Hz9 := Lib.hid (bgo H16.out.1 hBr)
              clear hBr
              go_wp2_with fail
              go_ret
              exact ⟨rfl, Hz9.out⟩
end Go.Proofs.YtmebllhkfepkdaaGreatDoor
