/- The walk of the reference's Rows (layer 35). -/
import Derived.Test.YtfjkmhbipkoefaaDoorQ20
import Derived.Test.YtfjkmhbipkoefaaDoorQ13
namespace Go.Proofs.YtfjkmhbipkoefaaDoor
open Go.RowKit Go.Shelf
set_option linter.unusedVariables false
set_option linter.unusedSimpArgs false
set_option maxRecDepth 100000
theorem share1 {G : Prop} {A0 : Type} (F : A0 → Prop) {P : A0 → Prop} (h1 : (∀ x0, F x0 → P x0) → G) (h2 : ∀ x0, F x0 → P x0) : G := h1 h2
theorem share2 {G : Prop} {A0 A1 : Type} (F : A0 → A1 → Prop) {P : A0 → A1 → Prop} (h1 : (∀ x0 x1, F x0 x1 → P x0 x1) → G) (h2 : ∀ x0 x1, F x0 x1 → P x0 x1) : G := h1 h2
theorem share3 {G : Prop} {A0 A1 A2 : Type} (F : A0 → A1 → A2 → Prop) {P : A0 → A1 → A2 → Prop} (h1 : (∀ x0 x1 x2, F x0 x1 x2 → P x0 x1 x2) → G) (h2 : ∀ x0 x1 x2, F x0 x1 x2 → P x0 x1 x2) : G := h1 h2
theorem info_rowQ : (Tryd.prog.info? 64).map (fun i => (i.zero, i.size, i.bytes)) = some (some (.agg #[.string ⟨#[]⟩, .int .i64 0, .string ⟨#[]⟩]), 3, 40) := by kernel_rfl
theorem rday_at (n : Int) (t : ByteArray) (ht : Hid (dayB n = t)) (h0 : 0 ≤ n) (h1 : n ≤ 36524) (w : World) : Calls Tryd.prog 23 #[.int .i64 n] w fun e w' => e = .returned (.string t) ∧ Below w.heap.size w w' := by
  obtain ⟨k, rfl⟩ := Int.eq_ofNat_of_zero_le h0
  obtain ⟨M, hM⟩ := Cal.exists_month k (by omega)
  rw [← ht.out, dayB_eq hM]
  exact CaT.rtext_ok k M _ _ rfl hM rfl w
/-- What the reference's Rows keeps: the two boxes, and the list so far. -/
structure RRJ (w : World) (cs ss : Array Value) (v : Value) (R : List RowD) (W : World) : Prop where
  bc : W.heap[w.heap.size]? = some (.cells cs 33 (0, 0))
  bs : W.heap[w.heap.size + 1]? = some (.cells ss 37 (0, 0))
  own : W.ownsRow w.heap.size 64 3 v R.length (rowsV R)
  be : Below w.heap.size w W
theorem RRJ.go {w W W' : World} {cs ss : Array Value} {v : Value} {R : List RowD} (h : RRJ w cs ss v R W) (k : Below W.heap.size W W') : RRJ w cs ss v R W' :=
  ⟨(k.block _ (Array.getElem?_eq_some_iff.1 h.bc).1).trans h.bc, (k.block _ (Array.getElem?_eq_some_iff.1 h.bs).1).trans h.bs, own_below h.own k, bgo h.be k⟩
theorem RRJ.al {w W : World} {cs ss : Array Value} {v : Value} {R : List RowD} (h : RRJ w cs ss v R W) (o : Obj) : RRJ w cs ss v R (W.alloc o) := h.go (bal (Below.refl _ _) o)
theorem RRJ.neq {W : World} {base : Nat} {size n : Nat} {v : Value} {xs : List Value} {b : Nat} {cs : Array Value} {T : TypeId} {fr : Nat × Nat} (h : W.ownsRow base 64 size v n xs) (hb : W.heap[b]? = some (.cells cs T fr)) (hT : T ≠ 64) : v.ownBlock ≠ some b := by
  intro hv
  rcases h.2 with ⟨h0, _⟩ | ⟨g, cap, cur, h0, _, h2, _⟩
  · rw [h0] at hv; cases hv
  · rw [h0] at hv
    injection hv with hv
    have hv : g = b := hv
    subst hv
    rw [h2] at hb
    injection hb with hb
    injection hb with _ hb
    exact hT hb.symm
theorem RRJ.app {w W W' : World} {cs ss : Array Value} {v v' : Value} {R : List RowD} {x : RowD} (h : RRJ w cs ss v R W) (hk : Kept W v W') (hB : Below w.heap.size w W') (ho : W'.ownsRow w.heap.size 64 3 v' (R.length + 1) (rowsV R ++ rowV x)) : RRJ w cs ss v' (R ++ [x]) W' :=
  ⟨(hk.2 _ (Array.getElem?_eq_some_iff.1 h.bc).1 (RRJ.neq h.own h.bc (by decide))).trans h.bc, (hk.2 _ (Array.getElem?_eq_some_iff.1 h.bs).1 (RRJ.neq h.own h.bs (by decide))).trans h.bs,
    by rw [List.length_append, List.length_singleton, show rowsV (R ++ [x]) = rowsV R ++ rowV x by simp [rowsV]]; exact ho, hB⟩
theorem rowOf_no1 {ds : List DeclD} {nums : List Int} {cur : ByteArray} {x : LineM} (h : (ds.getD x.line.toNat default).unit ≠ cur) : rowOf ds nums cur x = [] := by unfold rowOf; rw [if_neg (fun k => h k.1)]
theorem rowOf_no2 {ds : List DeclD} {nums : List Int} {cur : ByteArray} {x : LineM} (h : (ds.getD x.line.toNat default).role = 4) : rowOf ds nums cur x = [] := by unfold rowOf; rw [if_neg (fun k => k.2 h)]
theorem rowOf_yes {ds : List DeclD} {nums : List Int} {cur : ByteArray} {x : LineM} (h1 : (ds.getD x.line.toNat default).unit = cur) (h2 : (ds.getD x.line.toNat default).role ≠ 4) : rowOf ds nums cur x = [⟨(ds.getD x.line.toNat default).name, x.amt, reasonB nums x⟩] := by unfold rowOf; rw [if_pos ⟨h1, h2⟩]
theorem take_flat {α : Type} (f : α → List RowD) (l : List α) (k : Nat) (h : k < l.length) : (l.take (k + 1)).flatMap f = (l.take k).flatMap f ++ f l[k] := by
  rw [List.take_succ_eq_append_getElem h, List.flatMap_append]
  simp
theorem flat_le {ds : List DeclD} {nums : List Int} {cur : ByteArray} (l : List LineM) : (l.flatMap (rowOf ds nums cur)).length ≤ l.length := by
  induction l with
  | nil => simp
  | cons x l ih =>
    rw [List.flatMap_cons, List.length_append, List.length_cons]
    have : (rowOf ds nums cur x).length ≤ 1 := by unfold rowOf; split <;> simp
    omega
set_option maxHeartbeats 16000000 in
theorem rRows_any (c : CaseM) (s : SlipM) (w : World) (hc : CaseOk w c) (hs : SlipOk w s) :
    Calls Tryd.prog 9 #[caseV c, slipV s] w fun e w' => ∃ v, e = .returned (.tuple #[v, .int .i64 (rowsE (fitsB c s) (rowsL c s).length)]) ∧ w'.ownsRow w.heap.size 64 3 v (rowsR c s).length (rowsV (rowsR c s)) ∧ Below w.heap.size w w' := by
  obtain ⟨r, hr⟩ : ∃ r, fitsB c s = r := ⟨_, rfl⟩
  have hfit := fun (W : World) (hW : Below w.heap.size w W) => rfits_any c s r (Lib.hid hr) W (hc.go hW) (hs.go hW)
  have HRR : Hid (r = true → rowsR c s = if (rowsL c s).length ≤ 1024 then rowsL c s else []) := Lib.hid (fun hrt => by
    unfold rowsR
    rw [hr, hrt]
    by_cases h : (rowsL c s).length ≤ 1024
    · rw [if_pos h, if_pos ⟨rfl, h⟩]
    · rw [if_neg h, if_neg (fun k => h k.2)])
  have HRF : Hid (r = false → rowsR c s = []) := Lib.hid (fun hrf => by
    unfold rowsR
    rw [hr, hrf, if_neg (fun k => absurd k.1 (by decide))])
  have hr2 := hr
  obtain ⟨RL, hRL⟩ : ∃ R, rowsL c s = R := ⟨_, rfl⟩
  obtain ⟨RR, hRR⟩ : ∃ R, rowsR c s = R := ⟨_, rfl⟩
  have hRL' := hRL
  rw [hr, hRL, hRR]
  rw [hRL, hRR] at HRR
  rw [hRR] at HRF
  have hdl := hc.cd
  have hnl := hc.ca
  have hll := hs.ll
  have htl := hs.lt
  have hpz := hs.pz
  have HLD0 := hc.ld
  have HLA0 := hc.la
  have Hnu0 := hc.nu
  have Hnm0 := hc.nm
  have HLS0 := hs.sl
  have HST0 := hs.st
  have HLN := Lib.hid hs.ln
  have Hti := Lib.hid hs.ti
  have Hgs := Lib.hid (And.intro hs.g0 (And.intro hs.g1 (And.intro hs.g2 (And.intro hs.g3 hs.g4))))
  unfold maxLen at hdl hnl
  clear hc hs hRR hr
  obtain ⟨person, month, LA, lc, lines, gross, tax, deduct, floor, TA, tc, taken, net⟩ := s
  obtain ⟨f0, DA, dc, ds, AA, ac, nums, v3, v4, v5, v6, cur, fst⟩ := c
  dsimp only [slipV, caseV] at hdl hnl hll htl hpz HLD0 HLA0 Hnu0 Hnm0 HLS0 HST0 HLN Hti Hgs hfit ⊢
  have hRe : lines.flatMap (rowOf ds nums cur) ++ (sumsL gross tax deduct floor ++ taken.map orderR ++ [netR net]) = RL := hRL'
  have hrb : (isNameB person && decide (0 ≤ month ∧ month ≤ 1199) && lines.all (lineFit ds.length nums.length)) = r := hr2
  obtain ⟨dn, hdn⟩ : ∃ n, ds.length = n := ⟨_, rfl⟩
  obtain ⟨an, han⟩ : ∃ n, nums.length = n := ⟨_, rfl⟩
  obtain ⟨ln, hln⟩ : ∃ n, lines.length = n := ⟨_, rfl⟩
  obtain ⟨tn, htn⟩ : ∃ n, taken.length = n := ⟨_, rfl⟩
  rw [hdn] at hdl HLD0 hrb hfit ⊢
  rw [han] at hnl hrb hfit ⊢
  rw [hln] at hll HLS0 hfit ⊢
  rw [htn] at htl HST0 hfit ⊢
  have Hfit := Lib.hid hfit
  have HRL := Lib.hid hRe
  have Hrb := Lib.hid hrb
  have HLD := Lib.hid HLD0
  have HLA := Lib.hid HLA0
  have Hnu := Lib.hid Hnu0
  have Hnm := Lib.hid Hnm0
  have HLS := Lib.hid HLS0
  have HST := Lib.hid HST0
  have Hn := Lib.hid (And.intro hdn (And.intro han (And.intro hln htn)))
  obtain ⟨i0, hi0, hz0, hz1, hz2⟩ := info_parts info_rowQ
  clear hfit hRL hRL' hr2 hRe hrb HLD0 HLA0 Hnu0 Hnm0 HLS0 HST0 hdn han hln htn
  go_enter Tryd.func9, Tryd.ntmps9
  go_upto_region 1 with fail
  obtain ⟨W, hW⟩ : ∃ W, W = (w.alloc (.cells #[f0, .slice DA dn dc, .slice AA an ac, v3, v4, v5, v6, .string cur, .int .i64 fst] 33)).alloc (.cells #[.string person, .int .i64 month, .slice LA ln lc, .int .i64 gross, .int .i64 tax, .int .i64 deduct, .int .i64 floor, .slice TA tn tc, .int .i64 net] 37) := ⟨_, rfl⟩
  rw [← hW]
  have g1 : W.heap[w.heap.size + 1]? = some (.cells #[.string person, .int .i64 month, .slice LA ln lc, .int .i64 gross, .int .i64 tax, .int .i64 deduct, .int .i64 floor, .slice TA tn tc, .int .i64 net] 37 (0, 0)) := by rw [hW]; exact heap_alloc2_new w _ _
  have g0 : W.heap[w.heap.size]? = some (.cells #[f0, .slice DA dn dc, .slice AA an ac, v3, v4, v5, v6, .string cur, .int .i64 fst] 33 (0, 0)) := by rw [hW]; exact heap_alloc2_old w _ _
  have hBW : Below w.heap.size w W := by rw [hW]; exact bal (bal (Below.refl _ _) _) _
  have HJ0 : Hid (RRJ w #[f0, .slice DA dn dc, .slice AA an ac, v3, v4, v5, v6, .string cur, .int .i64 fst] #[.string person, .int .i64 month, .slice LA ln lc, .int .i64 gross, .int .i64 tax, .int .i64 deduct, .int .i64 floor, .slice TA tn tc, .int .i64 net] (.slice none 0 0) [] W) := Lib.hid ⟨g0, g1, ⟨rfl, .inl ⟨rfl, rfl⟩⟩, hBW⟩
  clear hW
  have d0 : W.cell? ⟨w.heap.size, 0, none⟩ = some (f0) := by rw [Lib.cell_of_heap g0]; rfl
  have d1 : W.cell? ⟨w.heap.size, 1, none⟩ = some (.slice DA dn dc) := by rw [Lib.cell_of_heap g0]; rfl
  have d2 : W.cell? ⟨w.heap.size, 2, none⟩ = some (.slice AA an ac) := by rw [Lib.cell_of_heap g0]; rfl
  have e0 : W.cell? ⟨w.heap.size + 1, 0, none⟩ = some (.string person) := by rw [Lib.cell_of_heap g1]; rfl
  have e1 : W.cell? ⟨w.heap.size + 1, 1, none⟩ = some (.int .i64 month) := by rw [Lib.cell_of_heap g1]; rfl
  have e2 : W.cell? ⟨w.heap.size + 1, 2, none⟩ = some (.slice LA ln lc) := by rw [Lib.cell_of_heap g1]; rfl
  have e3 : W.cell? ⟨w.heap.size + 1, 3, none⟩ = some (.int .i64 gross) := by rw [Lib.cell_of_heap g1]; rfl
  have e4 : W.cell? ⟨w.heap.size + 1, 4, none⟩ = some (.int .i64 tax) := by rw [Lib.cell_of_heap g1]; rfl
  have e5 : W.cell? ⟨w.heap.size + 1, 5, none⟩ = some (.int .i64 deduct) := by rw [Lib.cell_of_heap g1]; rfl
  have e6 : W.cell? ⟨w.heap.size + 1, 6, none⟩ = some (.int .i64 floor) := by rw [Lib.cell_of_heap g1]; rfl
  have e7 : W.cell? ⟨w.heap.size + 1, 7, none⟩ = some (.slice TA tn tc) := by rw [Lib.cell_of_heap g1]; rfl
  have e8 : W.cell? ⟨w.heap.size + 1, 8, none⟩ = some (.int .i64 net) := by rw [Lib.cell_of_heap g1]; rfl
  clear g0 g1
  go_wp2_with fail
  refine (Hfit.out W hBW).mono ?_
  rintro e w1 ⟨rfl, hB1⟩
  have HJ1 := Lib.hid (HJ0.out.go hB1)
  clear d0 d1 d2 e0 e1 e2 e3 e4 e5 e6 e7 e8 hB1 HJ0 hBW Hfit
  clear W
  cases r with
  | false =>
    have hre : RR = [] := HRF.out rfl
    subst hre
    have hbe := HJ1.out.be
    go_wp2_with fail
    refine bodyPost_ret (v := .tuple #[.slice none 0 0, .int .i64 1]) (by simp [results, Tryd.results9, go_sem]) rfl ⟨.slice none 0 0, rfl, ⟨rfl, .inl ⟨rfl, rfl⟩⟩, hbe⟩
  | true =>
    have hall := Hrb.out
    rw [Bool.and_eq_true] at hall
    have Hall : Hid (∀ x ∈ lines, lineFit dn an x = true) := Lib.hid (List.all_eq_true.1 hall.2)
    have HRE : Hid (RR = if RL.length ≤ 1024 then RL else []) := Lib.hid (HRR.out rfl)
    clear hall HRF HRR Hrb
    go_wp2_with fail
    go_loopw [7, 8] (fun v i wr => ∃ k : Nat, k ≤ ln ∧ i = .int .i64 (k : Int) ∧ RRJ w #[f0, .slice DA dn dc, .slice AA an ac, v3, v4, v5, v6, .string cur, .int .i64 fst] #[.string person, .int .i64 month, .slice LA ln lc, .int .i64 gross, .int .i64 tax, .int .i64 deduct, .int .i64 floor, .slice TA tn tc, .int .i64 net] v ((lines.take k).flatMap (rowOf ds nums cur)) wr) (fun _ i _ => ln - (intOf i).toNat)
    case atStart => exact ⟨0, Nat.zero_le _, rfl, HJ1.out⟩
    case round =>
      clear HJ1
      obtain ⟨k, hk, rfl, hJ⟩ := hrel
      have HJ := Lib.hid hJ
      have hrl := flat_le (ds := ds) (nums := nums) (cur := cur) (lines.take k)
      have hBw := hJ.be
      have e2 : wr.cell? ⟨w.heap.size + 1, 2, none⟩ = some (.slice LA ln lc) := by rw [Lib.cell_of_heap hJ.bs]; rfl
      clear hJ
      by_cases hlt : k < ln
      · have hlt' : (k : Int) < (ln : Int) := by omega
        have hkl : k < lines.length := by rw [Hn.out.2.2.1]; exact hlt
        obtain ⟨b, off, rfl, hb, hcell⟩ := HLS.out.2 (by omega)
        obtain ⟨x, hx⟩ : ∃ x, lines[k] = x := ⟨_, rfl⟩
        have hget := flat_get lineV 6 (fun _ => rfl) lines k hkl
        rw [hx] at hget
        have hLx : LineOk w x := by rw [← hx]; exact HLN.out _ (List.getElem_mem hkl)
        have hlf := Hall.out x (by rw [← hx]; exact List.getElem_mem hkl)
        have Htk : Hid ((lines.take (k + 1)).flatMap (rowOf ds nums cur) = (lines.take k).flatMap (rowOf ds nums cur) ++ rowOf ds nums cur x) := Lib.hid (by rw [take_flat _ _ _ hkl, hx])
        have hlen : ((lines.take k).flatMap (rowOf ds nums cur)).length ≤ 1000000 := by
          rw [List.length_take] at hrl
          omega
        obtain ⟨Rk, hRk⟩ : ∃ R, (lines.take k).flatMap (rowOf ds nums cur) = R := ⟨_, rfl⟩
        rw [hRk] at HJ Htk hlen
        clear hRk hrl
        obtain ⟨day, line, art, amt, FA, fc, facts, RA, rc, rests⟩ := x
        unfold lineFit at hlf
        dsimp only at hlf
        simp only [Bool.and_eq_true] at hlf
        obtain ⟨⟨⟨f1, f2⟩, f3⟩, _⟩ := hlf
        have f1 := idx_yes f1
        have f2 := idx_yes f2
        have f3 := idx_yes f3
        obtain ⟨lq, rfl⟩ := Int.eq_ofNat_of_zero_le f2.1
        obtain ⟨aq, rfl⟩ := Int.eq_ofNat_of_zero_le f3.1
        have hlq : lq < dn := by omega
        have haq : aq < an := by omega
        obtain ⟨fn, hfn⟩ : ∃ n, facts.length = n := ⟨_, rfl⟩
        obtain ⟨rn, hrn⟩ : ∃ n, rests.length = n := ⟨_, rfl⟩
        have cc : ∀ j v, (lineV ⟨day, (lq : Int), (aq : Int), amt, FA, fc, facts, RA, rc, rests⟩)[j]? = some v → j < 6 → wr.cell? ⟨b, off + (k * 6 + j), none⟩ = some v := fun j v hv hj => (hBw.cell (p := ⟨b, off + (k * 6 + j), none⟩) hb).trans (hcell _ _ ((hget j hj).trans hv))
        have y0 : wr.cell? ⟨b, off + k * 6, none⟩ = some (.int .i64 day) := cc 0 _ rfl (by decide)
        have y1 : wr.cell? ⟨b, off + k * 6 + 1, none⟩ = some (.int .i64 (lq : Int)) := cc 1 _ rfl (by decide)
        have y2 : wr.cell? ⟨b, off + k * 6 + 2, none⟩ = some (.int .i64 (aq : Int)) := cc 2 _ rfl (by decide)
        have y3 : wr.cell? ⟨b, off + k * 6 + 3, none⟩ = some (.int .i64 amt) := cc 3 _ rfl (by decide)
        have y4 : wr.cell? ⟨b, off + k * 6 + 4, none⟩ = some (.slice FA fn fc) := by rw [← hfn]; exact cc 4 _ rfl (by decide)
        have y5 : wr.cell? ⟨b, off + k * 6 + 5, none⟩ = some (.slice RA rn rc) := by rw [← hrn]; exact cc 5 _ rfl (by decide)
        have HSF := Lib.hid (show Sl w w.heap.size 1 FA fn (intV facts) by rw [← hfn]; exact hLx.sf)
        have HSR := Lib.hid (show Sl w w.heap.size 1 RA rn (intV rests) by rw [← hrn]; exact hLx.sr)
        have hfl : fn ≤ 1000 := by rw [← hfn]; exact hLx.lf
        have hrl : rn ≤ 1000 := by rw [← hrn]; exact hLx.lr
        have Hbf := Lib.hid (And.intro hLx.bf hLx.br)
        dsimp only at Hbf
        have hamt : I64 amt := hLx.ba
        obtain ⟨d, hd⟩ : ∃ d, ds.getD lq default = d := ⟨_, rfl⟩
        have hlql : lq < ds.length := by rw [Hn.out.1]; exact hlq
        have hdm : d ∈ ds := by rw [← hd]; simp [List.getD, hlql]
        have hdz := Hnm.out d hdm
        have hdg : ds[lq] = d := by rw [← hd]; simp [List.getD, hlql]
        obtain ⟨b3, o3, hDA, hb3, hc3⟩ := HLD.out.2 (by omega)
        have hget3 := flat_get declV 3 (fun _ => rfl) ds lq hlql
        rw [hdg] at hget3
        obtain ⟨dname, dunit, drole⟩ := d
        dsimp only at hdz
        obtain ⟨num, hnum⟩ : ∃ n, nums.getD aq 0 = n := ⟨_, rfl⟩
        have haql : aq < nums.length := by rw [Hn.out.2.1]; exact haq
        have hnI : I64 num := by rw [← hnum]; exact Hnu.out _ (by simp [List.getD, haql])
        obtain ⟨b4, o4, hAA, hb4, hc4⟩ := HLA.out (by omega)
        subst hDA
        subst hAA
        have Hrow : Hid ((dunit ≠ cur → rowOf ds nums cur ⟨day, (lq : Int), (aq : Int), amt, FA, fc, facts, RA, rc, rests⟩ = []) ∧ (drole = 4 → rowOf ds nums cur ⟨day, (lq : Int), (aq : Int), amt, FA, fc, facts, RA, rc, rests⟩ = []) ∧ (dunit = cur → drole ≠ 4 → rowOf ds nums cur ⟨day, (lq : Int), (aq : Int), amt, FA, fc, facts, RA, rc, rests⟩ = [⟨dname, amt, reasonB nums ⟨day, (lq : Int), (aq : Int), amt, FA, fc, facts, RA, rc, rests⟩⟩])) := Lib.hid ⟨fun h => rowOf_no1 (by dsimp only; rw [Int.toNat_natCast, hd]; exact h), fun h => rowOf_no2 (by dsimp only; rw [Int.toNat_natCast, hd]; exact h), fun h h' => by
          have := rowOf_yes (ds := ds) (nums := nums) (cur := cur) (x := ⟨day, (lq : Int), (aq : Int), amt, FA, fc, facts, RA, rc, rests⟩) (by dsimp only; rw [Int.toNat_natCast, hd]; exact h) (by dsimp only; rw [Int.toNat_natCast, hd]; exact h')
          dsimp only at this
          rw [Int.toNat_natCast, hd] at this
          exact this⟩
        have Hnum := Lib.hid hnum
        have Hfr := Lib.hid (And.intro hfn hrn)
        have HZ : Hid (∀ W, Below w.heap.size w W → W.cell? ⟨b3, o3 + lq * 3, none⟩ = some (.string dname) ∧ W.cell? ⟨b3, o3 + lq * 3 + 1, none⟩ = some (.string dunit) ∧ W.cell? ⟨b3, o3 + lq * 3 + 2, none⟩ = some (.int .i64 drole) ∧ W.cell? ⟨b4, o4 + aq * 14, none⟩ = some (.int .i64 num)) := Lib.hid (fun W hW => by
          have hq : ∀ j u, (ds.flatMap declV)[lq * 3 + j]? = some u → W.cell? ⟨b3, o3 + (lq * 3 + j), none⟩ = some u := fun j u hu => (hW.cell (p := ⟨b3, o3 + (lq * 3 + j), none⟩) hb3).trans (hc3 _ _ hu)
          exact ⟨hq 0 _ (hget3 0 (by decide)), hq 1 _ (hget3 1 (by decide)), hq 2 _ (hget3 2 (by decide)), (hW.cell (p := ⟨b4, o4 + aq * 14, none⟩) hb4).trans (by rw [← hnum]; exact hc4 aq haql)⟩)
        clear hx hget hLx cc hcell hfn hrn hkl hd hlql hdm hdg hc3 hget3 hnum haql hc4
        go_upto_region 9 with fail
        obtain ⟨V1, hV1⟩ : ∃ V, V = wr.alloc (.cells #[.int .i64 day, .int .i64 (lq : Int), .int .i64 (aq : Int), .int .i64 amt, .slice FA fn fc, .slice RA rn rc] 62) := ⟨_, rfl⟩
        obtain ⟨b9, hb9⟩ : ∃ x, x = wr.heap.size := ⟨_, rfl⟩
        have hJ1 := HJ.out.al (.cells #[.int .i64 day, .int .i64 (lq : Int), .int .i64 (aq : Int), .int .i64 amt, .slice FA fn fc, .slice RA rn rc] 62)
        rw [← hV1] at hJ1 ⊢
        rw [← hb9]
        have g9 : V1.heap[b9]? = some (.cells #[.int .i64 day, .int .i64 (lq : Int), .int .i64 (aq : Int), .int .i64 amt, .slice FA fn fc, .slice RA rn rc] 62 (0, 0)) := by rw [hV1, hb9]; exact World.alloc_heap_new _ _
        have h9w : w.heap.size + 1 < b9 := by rw [hb9]; exact (Array.getElem?_eq_some_iff.1 HJ.out.bs).1
        clear hV1 hb9 y0 y1 y2 y3 y4 y5 hBw e2 HJ
        clear wr
        have HJ1 := Lib.hid hJ1
        have G9 := Lib.hid g9
        have d1 : V1.cell? ⟨w.heap.size, 1, none⟩ = some (.slice (some ⟨b3, o3, none⟩) dn dc) := by rw [Lib.cell_of_heap hJ1.bc]; rfl
        have z1 : V1.cell? ⟨b9, 1, none⟩ = some (.int .i64 (lq : Int)) := by rw [Lib.cell_of_heap g9]; rfl
        obtain ⟨q0, q1, q2, q3⟩ := HZ.out V1 hJ1.be
        clear hJ1 g9 q3
        go_upto_region 10 with fail
        obtain ⟨V2, hV2⟩ : ∃ V, V = V1.alloc (.cells #[.string dname, .string dunit, .int .i64 drole] 66) := ⟨_, rfl⟩
        obtain ⟨b10, hb10⟩ : ∃ x, x = V1.heap.size := ⟨_, rfl⟩
        have hBV : Below V1.heap.size V1 V2 := by rw [hV2]; exact bal (Below.refl _ _) _
        have hJ2 := HJ1.out.go hBV
        rw [← hV2]
        rw [← hb10]
        have g10 : V2.heap[b10]? = some (.cells #[.string dname, .string dunit, .int .i64 drole] 66 (0, 0)) := by rw [hV2, hb10]; exact World.alloc_heap_new _ _
        have g9 := (hBV.block b9 (Array.getElem?_eq_some_iff.1 G9.out).1).trans G9.out
        clear hV2 hb10 d1 z1 q0 q1 q2 HJ1 G9 hBV
        clear V1
        have HJ2 := Lib.hid hJ2
        have G := Lib.hid (And.intro g9 g10)
        have z1 : V2.cell? ⟨b10, 1, none⟩ = some (.string dunit) := by rw [Lib.cell_of_heap g10]; rfl
        have z2 : V2.cell? ⟨b10, 2, none⟩ = some (.int .i64 drole) := by rw [Lib.cell_of_heap g10]; rfl
        have d7 : V2.cell? ⟨w.heap.size, 7, none⟩ = some (.string cur) := by rw [Lib.cell_of_heap hJ2.bc]; rfl
        clear hJ2 g9 g10
        by_cases hu : dunit = cur
        · have he : (dunit.toList == cur.toList) = true := by rw [hu]; simp
          by_cases h4 : drole = 4
          · have he4 : (drole == 4) = true := by rw [h4]; rfl
            have Hnx : Hid ((lines.take (k + 1)).flatMap (rowOf ds nums cur) = Rk) := Lib.hid (by rw [Htk.out, Hrow.out.2.1 h4, List.append_nil])
            clear hu h4
            go_wp2_with fail
            go_roundw
            case rel => exact ⟨k + 1, by omega, by go_num, by rw [Hnx.out]; exact HJ2.out⟩
            case measure => simp [intOf]; omega
          · have he4 : (drole == 4) = false := beq_eq_false_iff_ne.2 h4
            have Hnx : Hid ((lines.take (k + 1)).flatMap (rowOf ds nums cur) = Rk ++ [⟨dname, amt, reasonB nums ⟨day, (lq : Int), (aq : Int), amt, FA, fc, facts, RA, rc, rests⟩⟩]) := Lib.hid (by rw [Htk.out, Hrow.out.2.2 hu h4])
            clear hu
            clear h4
            go_upto_region 11 with fail
            clear he he4 z1 z2 d7
            obtain ⟨t1, ht1⟩ : ∃ t, itoaB (aq : Int) = t := ⟨_, rfl⟩
            obtain ⟨t2, ht2⟩ : ∃ t, itoaB num = t := ⟨_, rfl⟩
            obtain ⟨t3, ht3⟩ : ∃ t, dayB day = t := ⟨_, rfl⟩
            obtain ⟨t4, ht4⟩ : ∃ t, listedB facts = t := ⟨_, rfl⟩
            obtain ⟨t5, ht5⟩ : ∃ t, listedB rests = t := ⟨_, rfl⟩
            obtain ⟨tr, htr⟩ : ∃ t, reasonB nums ⟨day, (lq : Int), (aq : Int), amt, FA, fc, facts, RA, rc, rests⟩ = t := ⟨_, rfl⟩
            have a1 := itoaB_size (aq : Int) (by omega) (by omega)
            have haI : I64 (aq : Int) := ⟨by omega, by omega⟩
            have a2 := itoaB_size num hnI.1 hnI.2
            have a3 := dayB_size day
            have a4 := listedB_size facts Hbf.out.1
            have a5 := listedB_size rests Hbf.out.2
            rw [ht1] at a1
            rw [ht2] at a2
            rw [ht3] at a3
            rw [ht4, Hfr.out.1] at a4
            rw [ht5, Hfr.out.2] at a5
            rw [htr] at Hnx
            have Htr : Hid ((((((⟨#[118, 101, 114, 115, 105, 111, 110, 32]⟩ : ByteArray) ++ t1) ++ ⟨#[32, 111, 102, 32, 97, 114, 116, 105, 99, 108, 101, 32]⟩ ++ t2) ++ ⟨#[32, 111, 110, 32]⟩ ++ t3) ++ ⟨#[59, 32, 102, 97, 99, 116, 115, 32]⟩ ++ t4) ++ ⟨#[59, 32, 118, 101, 114, 115, 105, 111, 110, 115, 32]⟩ ++ t5 = tr) := Lib.hid (by
              rw [← htr, reasonB]
              dsimp only
              rw [Int.toNat_natCast, Hnum.out, ht1, ht2, ht3, ht4, ht5]
              have he : ∀ t : ByteArray, t ++ ⟨#[]⟩ = t := fun t => ByteArray.ext (by simp [ByteArray.data_append])
              simp [catB, tVersion, tArticle, tOn, tFacts, tVersions, ByteArray.append_assoc, he])
            have H1 := Lib.hid ht1
            have H2 := Lib.hid ht2
            have H3 := Lib.hid ht3
            have H4 := Lib.hid ht4
            have H5 := Lib.hid ht5
            clear ht1 ht2 ht3 ht4 ht5 htr
            have HC : Hid (∀ W, Below V2.heap.size V2 W → W.cell? ⟨w.heap.size, 2, none⟩ = some (.slice (some ⟨b4, o4, none⟩) an ac) ∧ W.cell? ⟨b9, 0, none⟩ = some (.int .i64 day) ∧ W.cell? ⟨b9, 2, none⟩ = some (.int .i64 (aq : Int)) ∧ W.cell? ⟨b4, o4 + aq * 14, none⟩ = some (.int .i64 num)) := Lib.hid (fun W hW => by
              have k1 := (hW.block _ (Array.getElem?_eq_some_iff.1 HJ2.out.bc).1).trans HJ2.out.bc
              have k2 := (hW.block _ (Array.getElem?_eq_some_iff.1 G.out.1).1).trans G.out.1
              exact ⟨by rw [Lib.cell_of_heap k1]; rfl, by rw [Lib.cell_of_heap k2]; rfl, by rw [Lib.cell_of_heap k2]; rfl, (HZ.out W (bgo HJ2.out.be hW)).2.2.2⟩)
            have HB0 := Lib.hid (show Below V2.heap.size V2 V2.drew from (Below.refl _ _).drew)
            refine wp_region_noPanic ?_
            refine wp_region_held_drew (S := fun W => Below V2.heap.size V2 W) (by kernel_rfl) HB0.out (fun hHeld => ?_)
            apply share1 (fun (U : World) => (Below V2.heap.size V2 U))
            case h1 =>
              intro d_2_13_18
              apply share1 (fun (U : World) => (Below V2.heap.size V2 U))
              case h1 =>
                intro d_2_13
                apply share1 (fun (U : World) => (Below V2.heap.size V2 U))
                case h1 =>
                  intro d_2
                  refine wpAnyH_take (i := 0) (v := ?_) rfl (by kernel_rfl) (by kernel_rfl) (by kernel_rfl) (fun _ _ _ h => h) (Or.inl ⟨by kernel_rfl, ?_⟩) (by assumption) ?_
                  rotate_left
                  · intro w hSw
                    (try dsimp only at hSw)
                    go_simp
                    first | done | with_reducible rfl
                  simp only [List.getElem_toArray, List.getElem_cons_zero, List.getElem_cons_succ, Act.put, List.setIfInBounds_toArray, List.set_cons_zero, List.set_cons_succ]
                  refine wpAnyH_take (i := 1) (v := ?_) rfl (by kernel_rfl) (by kernel_rfl) (by kernel_rfl) (fun _ _ _ h => h) (Or.inl ⟨by kernel_rfl, ?_⟩) (by assumption) ?_
                  rotate_left
                  · intro w hSw
                    (try dsimp only at hSw)
                    obtain ⟨z0, z1, z2, z3⟩ := HC.out w hSw
                    go_simp
                    first | done | with_reducible rfl
                  simp only [List.getElem_toArray, List.getElem_cons_zero, List.getElem_cons_succ, Act.put, List.setIfInBounds_toArray, List.set_cons_zero, List.set_cons_succ]
                  refine wpAnyH_take (i := 5) (v := ?_) rfl (by kernel_rfl) (by kernel_rfl) (by kernel_rfl) (fun _ _ _ h => h) (Or.inl ⟨by kernel_rfl, ?_⟩) (by assumption) ?_
                  rotate_left
                  · intro w hSw
                    (try dsimp only at hSw)
                    go_simp
                    first | done | with_reducible rfl
                  simp only [List.getElem_toArray, List.getElem_cons_zero, List.getElem_cons_succ, Act.put, List.setIfInBounds_toArray, List.set_cons_zero, List.set_cons_succ]
                  refine wpAnyH_take (i := 6) (v := ?_) rfl (by kernel_rfl) (by kernel_rfl) (by kernel_rfl) (fun _ _ _ h => h) (Or.inl ⟨by kernel_rfl, ?_⟩) (by assumption) ?_
                  rotate_left
                  · intro w hSw
                    (try dsimp only at hSw)
                    go_simp
                    first | done | with_reducible rfl
                  simp only [List.getElem_toArray, List.getElem_cons_zero, List.getElem_cons_succ, Act.put, List.setIfInBounds_toArray, List.set_cons_zero, List.set_cons_succ]
                  refine wpAnyH_take (i := 7) (v := ?_) rfl (by kernel_rfl) (by kernel_rfl) (by kernel_rfl) (fun _ _ _ h => h) (Or.inl ⟨by kernel_rfl, ?_⟩) (by assumption) ?_
                  rotate_left
                  · intro w hSw
                    (try dsimp only at hSw)
                    obtain ⟨z0, z1, z2, z3⟩ := HC.out w hSw
                    go_simp
                    first | done | with_reducible rfl
                  simp only [List.getElem_toArray, List.getElem_cons_zero, List.getElem_cons_succ, Act.put, List.setIfInBounds_toArray, List.set_cons_zero, List.set_cons_succ]
                  refine wpAnyH_take (i := 8) (v := ?_) rfl (by kernel_rfl) (by kernel_rfl) (by kernel_rfl) (fun _ _ _ h => h) (Or.inl ⟨by kernel_rfl, ?_⟩) (by assumption) ?_
                  rotate_left
                  · intro w hSw
                    (try dsimp only at hSw)
                    go_simp
                    first | done | with_reducible rfl
                  simp only [List.getElem_toArray, List.getElem_cons_zero, List.getElem_cons_succ, Act.put, List.setIfInBounds_toArray, List.set_cons_zero, List.set_cons_succ]
                  refine wpAnyH_take (i := 9) (v := ?_) rfl (by kernel_rfl) (by kernel_rfl) (by kernel_rfl) (fun _ _ _ h => h) (Or.inl ⟨by kernel_rfl, ?_⟩) (by assumption) ?_
                  rotate_left
                  · intro w hSw
                    (try dsimp only at hSw)
                    obtain ⟨z0, z1, z2, z3⟩ := HC.out w hSw
                    go_simp
                    first | done | with_reducible rfl
                  simp only [List.getElem_toArray, List.getElem_cons_zero, List.getElem_cons_succ, Act.put, List.setIfInBounds_toArray, List.set_cons_zero, List.set_cons_succ]
                  refine wpAnyH_take (i := 10) (v := ?_) rfl (by kernel_rfl) (by kernel_rfl) (by kernel_rfl) (fun _ _ _ h => h) (Or.inl ⟨by kernel_rfl, ?_⟩) (by assumption) ?_
                  rotate_left
                  · intro w hSw
                    (try dsimp only at hSw)
                    go_simp
                    first | done | with_reducible rfl
                  simp only [List.getElem_toArray, List.getElem_cons_zero, List.getElem_cons_succ, Act.put, List.setIfInBounds_toArray, List.set_cons_zero, List.set_cons_succ]
                  refine wpAnyH_take (i := 11) (v := ?_) rfl (by kernel_rfl) (by kernel_rfl) (by kernel_rfl) (fun _ _ _ h => h) (Or.inl ⟨by kernel_rfl, ?_⟩) (by assumption) ?_
                  rotate_left
                  · intro w hSw
                    (try dsimp only at hSw)
                    go_simp
                    first | done | with_reducible rfl
                  simp only [List.getElem_toArray, List.getElem_cons_zero, List.getElem_cons_succ, Act.put, List.setIfInBounds_toArray, List.set_cons_zero, List.set_cons_succ]
                  refine wpAnyH_take (i := 12) (v := ?_) rfl (by kernel_rfl) (by kernel_rfl) (by kernel_rfl) (fun _ _ _ h => h) (Or.inl ⟨by kernel_rfl, ?_⟩) (by assumption) ?_
                  rotate_left
                  · intro w hSw
                    (try dsimp only at hSw)
                    obtain ⟨z0, z1, z2, z3⟩ := HC.out w hSw
                    go_simp
                    first | done | with_reducible rfl
                  simp only [List.getElem_toArray, List.getElem_cons_zero, List.getElem_cons_succ, Act.put, List.setIfInBounds_toArray, List.set_cons_zero, List.set_cons_succ]
                  refine wpAnyH_take (i := 16) (v := ?_) rfl (by kernel_rfl) (by kernel_rfl) (by kernel_rfl) (fun _ _ _ h => h) (Or.inl ⟨by kernel_rfl, ?_⟩) (by assumption) ?_
                  rotate_left
                  · intro w hSw
                    (try dsimp only at hSw)
                    go_simp
                    first | done | with_reducible rfl
                  simp only [List.getElem_toArray, List.getElem_cons_zero, List.getElem_cons_succ, Act.put, List.setIfInBounds_toArray, List.set_cons_zero, List.set_cons_succ]
                  refine wpAnyH_take (i := 17) (v := ?_) rfl (by kernel_rfl) (by kernel_rfl) (by kernel_rfl) (fun _ _ _ h => h) (Or.inl ⟨by kernel_rfl, ?_⟩) (by assumption) ?_
                  rotate_left
                  · intro w hSw
                    (try dsimp only at hSw)
                    obtain ⟨z0, z1, z2, z3⟩ := HC.out w hSw
                    go_simp
                    first | done | with_reducible rfl
                  simp only [List.getElem_toArray, List.getElem_cons_zero, List.getElem_cons_succ, Act.put, List.setIfInBounds_toArray, List.set_cons_zero, List.set_cons_succ]
                  refine wpAnyH_ready (rs := [2]) (by kernel_rfl) (by simp) ?_
                  refine AllReadyH.cons rfl (fun K hK => ?_) ?_
                  · simp only [List.getElem_toArray, List.getElem_cons_zero, List.getElem_cons_succ]
                    go_simp
                    (with_reducible refine (rnumber_at (aq : Int) t1 H1 haI V2.drew).mono ?_)
                    rintro e Un ⟨rfl, hBn⟩
                    dsimp only
                    refine hK.out _ _ (bgo HB0.out hBn) (fun hHeldn => ?_)
                    clear hK K
                    try simp only [List.getElem_toArray, List.getElem_cons_zero, List.getElem_cons_succ, Act.put, List.setIfInBounds_toArray, List.set_cons_zero, List.set_cons_succ]
                    refine wpAnyH_take (i := 3) (v := ?_) rfl (by kernel_rfl) (by kernel_rfl) (by kernel_rfl) (fun _ _ _ h => h) (Or.inl ⟨by kernel_rfl, ?_⟩) (by assumption) ?_
                    rotate_left
                    · intro w hSw
                      (try dsimp only at hSw)
                      go_simp
                      first | done | with_reducible rfl | (rw [if_neg (by omega)])
                    simp only [List.getElem_toArray, List.getElem_cons_zero, List.getElem_cons_succ, Act.put, List.setIfInBounds_toArray, List.set_cons_zero, List.set_cons_succ]
                    refine wpAnyH_take (i := 4) (v := ?_) rfl (by kernel_rfl) (by kernel_rfl) (by kernel_rfl) (fun _ _ _ h => h) (Or.inl ⟨by kernel_rfl, ?_⟩) (by assumption) ?_
                    rotate_left
                    · intro w hSw
                      (try dsimp only at hSw)
                      go_simp
                      first | done | with_reducible rfl | (rw [if_neg (by omega)])
                    simp only [List.getElem_toArray, List.getElem_cons_zero, List.getElem_cons_succ, Act.put, List.setIfInBounds_toArray, List.set_cons_zero, List.set_cons_succ]
                    exact d_2 Un hHeldn
                  exact AllReadyH.nil
                case h2 =>
                  intro U hF
                  have hHeld := hF
                  refine wpAnyH_ready (rs := [13]) (by kernel_rfl) (by simp) ?_
                  refine AllReadyH.cons rfl (fun K hK => ?_) ?_
                  · simp only [List.getElem_toArray, List.getElem_cons_zero, List.getElem_cons_succ]
                    go_simp
                    (with_reducible refine (rnumber_at num t2 H2 hnI U).mono ?_)
                    rintro e Un ⟨rfl, hBn⟩
                    dsimp only
                    refine hK.out _ _ (bgo hHeld hBn) (fun hHeldn => ?_)
                    clear hK K
                    try simp only [List.getElem_toArray, List.getElem_cons_zero, List.getElem_cons_succ, Act.put, List.setIfInBounds_toArray, List.set_cons_zero, List.set_cons_succ]
                    refine wpAnyH_take (i := 14) (v := ?_) rfl (by kernel_rfl) (by kernel_rfl) (by kernel_rfl) (fun _ _ _ h => h) (Or.inl ⟨by kernel_rfl, ?_⟩) (by assumption) ?_
                    rotate_left
                    · intro w hSw
                      (try dsimp only at hSw)
                      go_simp
                      first | done | with_reducible rfl | (rw [if_neg (by omega)])
                    simp only [List.getElem_toArray, List.getElem_cons_zero, List.getElem_cons_succ, Act.put, List.setIfInBounds_toArray, List.set_cons_zero, List.set_cons_succ]
                    refine wpAnyH_take (i := 15) (v := ?_) rfl (by kernel_rfl) (by kernel_rfl) (by kernel_rfl) (fun _ _ _ h => h) (Or.inl ⟨by kernel_rfl, ?_⟩) (by assumption) ?_
                    rotate_left
                    · intro w hSw
                      (try dsimp only at hSw)
                      go_simp
                      first | done | with_reducible rfl | (rw [if_neg (by omega)])
                    simp only [List.getElem_toArray, List.getElem_cons_zero, List.getElem_cons_succ, Act.put, List.setIfInBounds_toArray, List.set_cons_zero, List.set_cons_succ]
                    exact d_2_13 Un hHeldn
                  exact AllReadyH.nil
              case h2 =>
                intro U hF
                have hHeld := hF
                refine wpAnyH_ready (rs := [18]) (by kernel_rfl) (by simp) ?_
                refine AllReadyH.cons rfl (fun K hK => ?_) ?_
                · simp only [List.getElem_toArray, List.getElem_cons_zero, List.getElem_cons_succ]
                  go_simp
                  (with_reducible refine (rday_at day t3 H3 f1.1 (by omega) U).mono ?_)
                  rintro e Un ⟨rfl, hBn⟩
                  dsimp only
                  refine hK.out _ _ (bgo hHeld hBn) (fun hHeldn => ?_)
                  clear hK K
                  try simp only [List.getElem_toArray, List.getElem_cons_zero, List.getElem_cons_succ, Act.put, List.setIfInBounds_toArray, List.set_cons_zero, List.set_cons_succ]
                  refine wpAnyH_take (i := 19) (v := ?_) rfl (by kernel_rfl) (by kernel_rfl) (by kernel_rfl) (fun _ _ _ h => h) (Or.inl ⟨by kernel_rfl, ?_⟩) (by assumption) ?_
                  rotate_left
                  · intro w hSw
                    (try dsimp only at hSw)
                    go_simp
                    first | done | with_reducible rfl | (rw [if_neg (by omega)])
                  simp only [List.getElem_toArray, List.getElem_cons_zero, List.getElem_cons_succ, Act.put, List.setIfInBounds_toArray, List.set_cons_zero, List.set_cons_succ]
                  refine wpAnyH_take (i := 20) (v := ?_) rfl (by kernel_rfl) (by kernel_rfl) (by kernel_rfl) (fun _ _ _ h => h) (Or.inl ⟨by kernel_rfl, ?_⟩) (by assumption) ?_
                  rotate_left
                  · intro w hSw
                    (try dsimp only at hSw)
                    go_simp
                    first | done | with_reducible rfl
                  simp only [List.getElem_toArray, List.getElem_cons_zero, List.getElem_cons_succ, Act.put, List.setIfInBounds_toArray, List.set_cons_zero, List.set_cons_succ]
                  exact d_2_13_18 Un hHeldn
                exact AllReadyH.nil
            case h2 =>
              intro U hF
              have hHeld := hF
              refine wpAnyH_done (by kernel_rfl) ?_ _
              dsimp only [NoPanic]
              have hJ3 : RRJ w #[f0, .slice (some ⟨b3, o3, none⟩) dn dc, .slice (some ⟨b4, o4, none⟩) an ac, v3, v4, v5, v6, .string cur, .int .i64 fst] #[.string person, .int .i64 month, .slice (some ⟨b, off, none⟩) ln lc, .int .i64 gross, .int .i64 tax, .int .i64 deduct, .int .i64 floor, .slice TA tn tc, .int .i64 net] u7 Rk U := HJ2.out.go hHeld
              have g9 := (hHeld.block _ (Array.getElem?_eq_some_iff.1 G.out.1).1).trans G.out.1
              have g10 := (hHeld.block _ (Array.getElem?_eq_some_iff.1 G.out.2).1).trans G.out.2
              have HJ3 := Lib.hid hJ3
              have G3 := Lib.hid (And.intro g9 g10)
              clear hJ3 g9 g10 hHeld HC HB0 G HJ2
              have hbe3 := HJ3.out.be
              go_upto_region 12 with fail
              obtain ⟨t6, ht6⟩ : ∃ t, (((⟨#[118, 101, 114, 115, 105, 111, 110, 32]⟩ : ByteArray) ++ t1) ++ ⟨#[32, 111, 102, 32, 97, 114, 116, 105, 99, 108, 101, 32]⟩ ++ t2) ++ ⟨#[32, 111, 110, 32]⟩ ++ t3 = t := ⟨_, rfl⟩
              have a6 : t6.size ≤ 100 := by
                rw [← ht6]
                simp only [ByteArray.size_append]
                have e1 : (⟨#[118, 101, 114, 115, 105, 111, 110, 32]⟩ : ByteArray).size = 8 := rfl
                have e2 : (⟨#[32, 111, 102, 32, 97, 114, 116, 105, 99, 108, 101, 32]⟩ : ByteArray).size = 12 := rfl
                have e3 : (⟨#[32, 111, 110, 32]⟩ : ByteArray).size = 4 := rfl
                omega
              rw [ht6] at Htr ⊢
              clear ht6 a1 a2 a3 H1 H2 H3
              have HD0 := Lib.hid (show (fun W : World => Below w.heap.size w W ∧ W.heap[b9]? = some (.cells #[.int .i64 day, .int .i64 (lq : Int), .int .i64 (aq : Int), .int .i64 amt, .slice FA fn fc, .slice RA rn rc] 62 (0, 0)) ∧ W.heap[b10]? = some (.cells #[.string dname, .string dunit, .int .i64 drole] 66 (0, 0))) U.drew from ⟨hbe3.drew, G3.out.1, G3.out.2⟩)
              have HD1 := Lib.hid (show RRJ w #[f0, .slice (some ⟨b3, o3, none⟩) dn dc, .slice (some ⟨b4, o4, none⟩) an ac, v3, v4, v5, v6, .string cur, .int .i64 fst] #[.string person, .int .i64 month, .slice (some ⟨b, off, none⟩) ln lc, .int .i64 gross, .int .i64 tax, .int .i64 deduct, .int .i64 floor, .slice TA tn tc, .int .i64 net] u7 Rk U.drew from HJ3.out.go (Below.refl _ _).drew)
              clear hbe3
              refine wp_region_noPanic ?_
              refine wp_region_held_drew (S := fun W => Below w.heap.size w W ∧ W.heap[b9]? = some (.cells #[.int .i64 day, .int .i64 (lq : Int), .int .i64 (aq : Int), .int .i64 amt, .slice FA fn fc, .slice RA rn rc] 62 (0, 0)) ∧ W.heap[b10]? = some (.cells #[.string dname, .string dunit, .int .i64 drole] 66 (0, 0))) (by kernel_rfl) HD0.out (fun hHeld => ?_)
              apply share3 (fun (U : World) (nb : Nat) (v2 : Value) => (Below w.heap.size w U ∧ U.heap[b9]? = some (.cells #[.int .i64 day, .int .i64 (lq : Int), .int .i64 (aq : Int), .int .i64 amt, .slice FA fn fc, .slice RA rn rc] 62 (0, 0)) ∧ U.heap[b10]? = some (.cells #[.string dname, .string dunit, .int .i64 drole] 66 (0, 0))) ∧ (RRJ w #[f0, .slice (some ⟨b3, o3, none⟩) dn dc, .slice (some ⟨b4, o4, none⟩) an ac, v3, v4, v5, v6, .string cur, .int .i64 fst] #[.string person, .int .i64 month, .slice (some ⟨b, off, none⟩) ln lc, .int .i64 gross, .int .i64 tax, .int .i64 deduct, .int .i64 floor, .slice TA tn tc, .int .i64 net] v2 (Rk ++ [⟨dname, amt, tr⟩]) U))
              case h1 =>
                intro f_9_14_17_18
                apply share2 (fun (U : World) (nb : Nat) => (Below w.heap.size w U ∧ U.heap[b9]? = some (.cells #[.int .i64 day, .int .i64 (lq : Int), .int .i64 (aq : Int), .int .i64 amt, .slice FA fn fc, .slice RA rn rc] 62 (0, 0)) ∧ U.heap[b10]? = some (.cells #[.string dname, .string dunit, .int .i64 drole] 66 (0, 0))) ∧ (RRJ w #[f0, .slice (some ⟨b3, o3, none⟩) dn dc, .slice (some ⟨b4, o4, none⟩) an ac, v3, v4, v5, v6, .string cur, .int .i64 fst] #[.string person, .int .i64 month, .slice (some ⟨b, off, none⟩) ln lc, .int .i64 gross, .int .i64 tax, .int .i64 deduct, .int .i64 floor, .slice TA tn tc, .int .i64 net] u7 Rk U) ∧ (Src U 3 (.slice (some ⟨nb, 0, none⟩) 1 1) 1 [.string dname, .int .i64 amt, .string tr]))
                case h1 =>
                  intro f_9_14_17
                  apply share1 (fun (U : World) => (Below w.heap.size w U ∧ U.heap[b9]? = some (.cells #[.int .i64 day, .int .i64 (lq : Int), .int .i64 (aq : Int), .int .i64 amt, .slice FA fn fc, .slice RA rn rc] 62 (0, 0)) ∧ U.heap[b10]? = some (.cells #[.string dname, .string dunit, .int .i64 drole] 66 (0, 0))) ∧ (RRJ w #[f0, .slice (some ⟨b3, o3, none⟩) dn dc, .slice (some ⟨b4, o4, none⟩) an ac, v3, v4, v5, v6, .string cur, .int .i64 fst] #[.string person, .int .i64 month, .slice (some ⟨b, off, none⟩) ln lc, .int .i64 gross, .int .i64 tax, .int .i64 deduct, .int .i64 floor, .slice TA tn tc, .int .i64 net] u7 Rk U))
                  case h1 =>
                    intro f_9_14
                    apply share1 (fun (U : World) => (Below w.heap.size w U ∧ U.heap[b9]? = some (.cells #[.int .i64 day, .int .i64 (lq : Int), .int .i64 (aq : Int), .int .i64 amt, .slice FA fn fc, .slice RA rn rc] 62 (0, 0)) ∧ U.heap[b10]? = some (.cells #[.string dname, .string dunit, .int .i64 drole] 66 (0, 0))) ∧ (RRJ w #[f0, .slice (some ⟨b3, o3, none⟩) dn dc, .slice (some ⟨b4, o4, none⟩) an ac, v3, v4, v5, v6, .string cur, .int .i64 fst] #[.string person, .int .i64 month, .slice (some ⟨b, off, none⟩) ln lc, .int .i64 gross, .int .i64 tax, .int .i64 deduct, .int .i64 floor, .slice TA tn tc, .int .i64 net] u7 Rk U))
                    case h1 =>
                      intro f_9
                      refine wpAnyH_take (i := 0) (v := ?_) rfl (by kernel_rfl) (by kernel_rfl) (by kernel_rfl) (fun _ _ _ h => h) (Or.inl ⟨by kernel_rfl, ?_⟩) (by assumption) ?_
                      rotate_left
                      · intro w hSw
                        (try dsimp only at hSw)
                        go_simp
                        first | done | with_reducible rfl
                      simp only [List.getElem_toArray, List.getElem_cons_zero, List.getElem_cons_succ, Act.put, List.setIfInBounds_toArray, List.set_cons_zero, List.set_cons_succ]
                      refine wpAnyH_take (i := 1) (v := ?_) rfl (by kernel_rfl) (by kernel_rfl) (by kernel_rfl) (fun _ _ _ h => h) (Or.inl ⟨by kernel_rfl, ?_⟩) (by assumption) ?_
                      rotate_left
                      · intro w hSw
                        (try dsimp only at hSw)
                        go_simp
                        first | done | with_reducible rfl
                      simp only [List.getElem_toArray, List.getElem_cons_zero, List.getElem_cons_succ, Act.put, List.setIfInBounds_toArray, List.set_cons_zero, List.set_cons_succ]
                      refine wpAnyH_take (i := 2) (v := ?_) rfl (by kernel_rfl) (by kernel_rfl) (by kernel_rfl) (fun _ _ _ h => h) (Or.inl ⟨by kernel_rfl, ?_⟩) (by assumption) ?_
                      rotate_left
                      · intro w hSw
                        (try dsimp only at hSw)
                        have z : w.cell? ⟨b10, 0, none⟩ = some (.string dname) := by rw [Lib.cell_of_heap hSw.2.2]; rfl
                        go_simp
                        first | done | with_reducible rfl
                      simp only [List.getElem_toArray, List.getElem_cons_zero, List.getElem_cons_succ, Act.put, List.setIfInBounds_toArray, List.set_cons_zero, List.set_cons_succ]
                      refine wpAnyH_take (i := 3) (v := ?_) rfl (by kernel_rfl) (by kernel_rfl) (by kernel_rfl) (fun _ _ _ h => h) (Or.inl ⟨by kernel_rfl, ?_⟩) (by assumption) ?_
                      rotate_left
                      · intro w hSw
                        (try dsimp only at hSw)
                        go_simp
                        first | done | with_reducible rfl
                      simp only [List.getElem_toArray, List.getElem_cons_zero, List.getElem_cons_succ, Act.put, List.setIfInBounds_toArray, List.set_cons_zero, List.set_cons_succ]
                      refine wpAnyH_take (i := 4) (v := ?_) rfl (by kernel_rfl) (by kernel_rfl) (by kernel_rfl) (fun _ _ _ h => h) (Or.inl ⟨by kernel_rfl, ?_⟩) (by assumption) ?_
                      rotate_left
                      · intro w hSw
                        (try dsimp only at hSw)
                        have z : w.cell? ⟨b9, 3, none⟩ = some (.int .i64 amt) := by rw [Lib.cell_of_heap hSw.2.1]; rfl
                        go_simp
                        first | done | with_reducible rfl
                      simp only [List.getElem_toArray, List.getElem_cons_zero, List.getElem_cons_succ, Act.put, List.setIfInBounds_toArray, List.set_cons_zero, List.set_cons_succ]
                      refine wpAnyH_take (i := 5) (v := ?_) rfl (by kernel_rfl) (by kernel_rfl) (by kernel_rfl) (fun _ _ _ h => h) (Or.inl ⟨by kernel_rfl, ?_⟩) (by assumption) ?_
                      rotate_left
                      · intro w hSw
                        (try dsimp only at hSw)
                        go_simp
                        first | done | with_reducible rfl
                      simp only [List.getElem_toArray, List.getElem_cons_zero, List.getElem_cons_succ, Act.put, List.setIfInBounds_toArray, List.set_cons_zero, List.set_cons_succ]
                      refine wpAnyH_take (i := 6) (v := ?_) rfl (by kernel_rfl) (by kernel_rfl) (by kernel_rfl) (fun _ _ _ h => h) (Or.inl ⟨by kernel_rfl, ?_⟩) (by assumption) ?_
                      rotate_left
                      · intro w hSw
                        (try dsimp only at hSw)
                        go_simp
                        first | done | with_reducible rfl | (rw [if_neg (by omega)])
                      simp only [List.getElem_toArray, List.getElem_cons_zero, List.getElem_cons_succ, Act.put, List.setIfInBounds_toArray, List.set_cons_zero, List.set_cons_succ]
                      refine wpAnyH_take (i := 7) (v := ?_) rfl (by kernel_rfl) (by kernel_rfl) (by kernel_rfl) (fun _ _ _ h => h) (Or.inl ⟨by kernel_rfl, ?_⟩) (by assumption) ?_
                      rotate_left
                      · intro w hSw
                        (try dsimp only at hSw)
                        go_simp
                        first | done | with_reducible rfl
                      simp only [List.getElem_toArray, List.getElem_cons_zero, List.getElem_cons_succ, Act.put, List.setIfInBounds_toArray, List.set_cons_zero, List.set_cons_succ]
                      refine wpAnyH_take (i := 8) (v := ?_) rfl (by kernel_rfl) (by kernel_rfl) (by kernel_rfl) (fun _ _ _ h => h) (Or.inl ⟨by kernel_rfl, ?_⟩) (by assumption) ?_
                      rotate_left
                      · intro w hSw
                        (try dsimp only at hSw)
                        have z : w.cell? ⟨b9, 4, none⟩ = some (.slice FA fn fc) := by rw [Lib.cell_of_heap hSw.2.1]; rfl
                        go_simp
                        first | done | with_reducible rfl
                      simp only [List.getElem_toArray, List.getElem_cons_zero, List.getElem_cons_succ, Act.put, List.setIfInBounds_toArray, List.set_cons_zero, List.set_cons_succ]
                      refine wpAnyH_take (i := 12) (v := ?_) rfl (by kernel_rfl) (by kernel_rfl) (by kernel_rfl) (fun _ _ _ h => h) (Or.inl ⟨by kernel_rfl, ?_⟩) (by assumption) ?_
                      rotate_left
                      · intro w hSw
                        (try dsimp only at hSw)
                        go_simp
                        first | done | with_reducible rfl
                      simp only [List.getElem_toArray, List.getElem_cons_zero, List.getElem_cons_succ, Act.put, List.setIfInBounds_toArray, List.set_cons_zero, List.set_cons_succ]
                      refine wpAnyH_take (i := 13) (v := ?_) rfl (by kernel_rfl) (by kernel_rfl) (by kernel_rfl) (fun _ _ _ h => h) (Or.inl ⟨by kernel_rfl, ?_⟩) (by assumption) ?_
                      rotate_left
                      · intro w hSw
                        (try dsimp only at hSw)
                        have z : w.cell? ⟨b9, 5, none⟩ = some (.slice RA rn rc) := by rw [Lib.cell_of_heap hSw.2.1]; rfl
                        go_simp
                        first | done | with_reducible rfl
                      simp only [List.getElem_toArray, List.getElem_cons_zero, List.getElem_cons_succ, Act.put, List.setIfInBounds_toArray, List.set_cons_zero, List.set_cons_succ]
                      refine wpAnyH_ready (rs := [9]) (by kernel_rfl) (by simp) ?_
                      refine AllReadyH.cons rfl (fun K hK => ?_) ?_
                      · simp only [List.getElem_toArray, List.getElem_cons_zero, List.getElem_cons_succ]
                        go_simp
                        (with_reducible refine (rlist_any FA fc fn facts t4 Hfr.out.1 H4 U.drew (HSF.out.go HD0.out.1) hfl Hbf.out.1).mono ?_)
                        rintro e Un ⟨rfl, hBn⟩
                        dsimp only
                        have hHn : Below w.heap.size w Un ∧ Un.heap[b9]? = some (.cells #[.int .i64 day, .int .i64 (lq : Int), .int .i64 (aq : Int), .int .i64 amt, .slice FA fn fc, .slice RA rn rc] 62 (0, 0)) ∧ Un.heap[b10]? = some (.cells #[.string dname, .string dunit, .int .i64 drole] 66 (0, 0)) := ⟨bgo HD0.out.1 hBn, (hBn.block _ (Array.getElem?_eq_some_iff.1 HD0.out.2.1).1).trans HD0.out.2.1, (hBn.block _ (Array.getElem?_eq_some_iff.1 HD0.out.2.2).1).trans HD0.out.2.2⟩
                        have hJn : RRJ w #[f0, .slice (some ⟨b3, o3, none⟩) dn dc, .slice (some ⟨b4, o4, none⟩) an ac, v3, v4, v5, v6, .string cur, .int .i64 fst] #[.string person, .int .i64 month, .slice (some ⟨b, off, none⟩) ln lc, .int .i64 gross, .int .i64 tax, .int .i64 deduct, .int .i64 floor, .slice TA tn tc, .int .i64 net] u7 Rk Un := HD1.out.go hBn
                        refine hK.out _ _ hHn (fun hHeldn => ?_)
                        clear hK K
                        try simp only [List.getElem_toArray, List.getElem_cons_zero, List.getElem_cons_succ, Act.put, List.setIfInBounds_toArray, List.set_cons_zero, List.set_cons_succ]
                        refine wpAnyH_take (i := 10) (v := ?_) rfl (by kernel_rfl) (by kernel_rfl) (by kernel_rfl) (fun _ _ _ h => h) (Or.inl ⟨by kernel_rfl, ?_⟩) (by assumption) ?_
                        rotate_left
                        · intro w hSw
                          (try dsimp only at hSw)
                          go_simp
                          first | done | with_reducible rfl | (rw [if_neg (by omega)])
                        simp only [List.getElem_toArray, List.getElem_cons_zero, List.getElem_cons_succ, Act.put, List.setIfInBounds_toArray, List.set_cons_zero, List.set_cons_succ]
                        refine wpAnyH_take (i := 11) (v := ?_) rfl (by kernel_rfl) (by kernel_rfl) (by kernel_rfl) (fun _ _ _ h => h) (Or.inl ⟨by kernel_rfl, ?_⟩) (by assumption) ?_
                        rotate_left
                        · intro w hSw
                          (try dsimp only at hSw)
                          go_simp
                          first | done | with_reducible rfl | (rw [if_neg (by omega)])
                        simp only [List.getElem_toArray, List.getElem_cons_zero, List.getElem_cons_succ, Act.put, List.setIfInBounds_toArray, List.set_cons_zero, List.set_cons_succ]
                        exact f_9 Un ⟨hHn, hJn⟩
                      exact AllReadyH.nil
                    case h2 =>
                      intro U hF
                      obtain ⟨hHeld, hJ⟩ := hF
                      refine wpAnyH_ready (rs := [14]) (by kernel_rfl) (by simp) ?_
                      refine AllReadyH.cons rfl (fun K hK => ?_) ?_
                      · simp only [List.getElem_toArray, List.getElem_cons_zero, List.getElem_cons_succ]
                        go_simp
                        (with_reducible refine (rlist_any RA rc rn rests t5 Hfr.out.2 H5 U (HSR.out.go hHeld.1) hrl Hbf.out.2).mono ?_)
                        rintro e Un ⟨rfl, hBn⟩
                        dsimp only
                        have hHn : Below w.heap.size w Un ∧ Un.heap[b9]? = some (.cells #[.int .i64 day, .int .i64 (lq : Int), .int .i64 (aq : Int), .int .i64 amt, .slice FA fn fc, .slice RA rn rc] 62 (0, 0)) ∧ Un.heap[b10]? = some (.cells #[.string dname, .string dunit, .int .i64 drole] 66 (0, 0)) := ⟨bgo hHeld.1 hBn, (hBn.block _ (Array.getElem?_eq_some_iff.1 hHeld.2.1).1).trans hHeld.2.1, (hBn.block _ (Array.getElem?_eq_some_iff.1 hHeld.2.2).1).trans hHeld.2.2⟩
                        have hJn : RRJ w #[f0, .slice (some ⟨b3, o3, none⟩) dn dc, .slice (some ⟨b4, o4, none⟩) an ac, v3, v4, v5, v6, .string cur, .int .i64 fst] #[.string person, .int .i64 month, .slice (some ⟨b, off, none⟩) ln lc, .int .i64 gross, .int .i64 tax, .int .i64 deduct, .int .i64 floor, .slice TA tn tc, .int .i64 net] u7 Rk Un := hJ.go hBn
                        refine hK.out _ _ hHn (fun hHeldn => ?_)
                        clear hK K
                        try simp only [List.getElem_toArray, List.getElem_cons_zero, List.getElem_cons_succ, Act.put, List.setIfInBounds_toArray, List.set_cons_zero, List.set_cons_succ]
                        refine wpAnyH_take (i := 15) (v := .string tr) rfl (by kernel_rfl) (by kernel_rfl) (by kernel_rfl) (fun _ _ _ h => h) (Or.inl ⟨by kernel_rfl, ?_⟩) (by assumption) ?_
                        · intro w hSw
                          (try dsimp only at hSw)
                          go_simp
                          first | (rw [if_neg (by omega), Htr.out]) | (rw [if_neg (by omega)]; exact congrArg _ (congrArg _ Htr.out))
                        simp only [List.getElem_toArray, List.getElem_cons_zero, List.getElem_cons_succ, Act.put, List.setIfInBounds_toArray, List.set_cons_zero, List.set_cons_succ]
                        refine wpAnyH_take (i := 16) (v := ?_) rfl (by kernel_rfl) (by kernel_rfl) (by kernel_rfl) (fun _ _ _ h => h) (Or.inl ⟨by kernel_rfl, ?_⟩) (by assumption) ?_
                        rotate_left
                        · intro w hSw
                          (try dsimp only at hSw)
                          go_simp
                          first | done | with_reducible rfl
                        simp only [List.getElem_toArray, List.getElem_cons_zero, List.getElem_cons_succ, Act.put, List.setIfInBounds_toArray, List.set_cons_zero, List.set_cons_succ]
                        exact f_9_14 Un ⟨hHn, hJn⟩
                      exact AllReadyH.nil
                  case h2 =>
                    intro U hF
                    obtain ⟨hHeld, hJ⟩ := hF
                    refine wpAnyH_ready (rs := [17]) (by kernel_rfl) (by simp) ?_
                    refine AllReadyH.cons rfl (fun K hK => ?_) ?_
                    · simp only [List.getElem_toArray, List.getElem_cons_zero, List.getElem_cons_succ]
                      go_simp
                      obtain ⟨Un, hUn⟩ : ∃ x, x = U.alloc (.cells #[.string dname, .int .i64 amt, .string tr] 64) := ⟨_, rfl⟩
                      obtain ⟨nb, hnb⟩ : ∃ x, x = U.heap.size := ⟨_, rfl⟩
                      have hBn : Below U.heap.size U Un := by rw [hUn]; exact bal (Below.refl _ _) _
                      have hHn : Below w.heap.size w Un ∧ Un.heap[b9]? = some (.cells #[.int .i64 day, .int .i64 (lq : Int), .int .i64 (aq : Int), .int .i64 amt, .slice FA fn fc, .slice RA rn rc] 62 (0, 0)) ∧ Un.heap[b10]? = some (.cells #[.string dname, .string dunit, .int .i64 drole] 66 (0, 0)) := ⟨bgo hHeld.1 hBn, (hBn.block _ (Array.getElem?_eq_some_iff.1 hHeld.2.1).1).trans hHeld.2.1, (hBn.block _ (Array.getElem?_eq_some_iff.1 hHeld.2.2).1).trans hHeld.2.2⟩
                      have hJn : RRJ w #[f0, .slice (some ⟨b3, o3, none⟩) dn dc, .slice (some ⟨b4, o4, none⟩) an ac, v3, v4, v5, v6, .string cur, .int .i64 fst] #[.string person, .int .i64 month, .slice (some ⟨b, off, none⟩) ln lc, .int .i64 gross, .int .i64 tax, .int .i64 deduct, .int .i64 floor, .slice TA tn tc, .int .i64 net] u7 Rk Un := hJ.go hBn
                      have hsn : Src Un 3 (.slice (some ⟨nb, 0, none⟩) 1 1) 1 [.string dname, .int .i64 amt, .string tr] := by rw [hUn, hnb]; exact block_src U [.string dname, .int .i64 amt, .string tr] _ _ 1 1 3 rfl
                      rw [← hUn]
                      try rw [← hnb]
                      clear hUn hnb
                      refine hK.out _ _ hHn (fun hHeldn => ?_)
                      clear hK K
                      try simp only [List.getElem_toArray, List.getElem_cons_zero, List.getElem_cons_succ, Act.put, List.setIfInBounds_toArray, List.set_cons_zero, List.set_cons_succ]
                      exact f_9_14_17 Un nb ⟨hHn, hJn, hsn⟩
                    exact AllReadyH.nil
                case h2 =>
                  intro U nb hF
                  obtain ⟨hHeld, hJ, hsrc⟩ := hF
                  refine wpAnyH_ready (rs := [18]) (by kernel_rfl) (by simp) ?_
                  refine AllReadyH.cons rfl (fun K hK => ?_) ?_
                  · refine step_src (w0 := w) (by rfl) _ _ 38 (by rfl) 64 i0 (.agg #[.string ⟨#[]⟩, .int .i64 0, .string ⟨#[]⟩]) 3 40 Tryd.underlying38 hi0 hz0 hz1 hz2 (by rfl) (by decide) u7 Rk.length (rowsV Rk) (by rfl) hJ.own hJ.be (.slice (some ⟨nb, 0, none⟩) 1 1) 1 [.string dname, .int .i64 amt, .string tr] (by rfl) hsrc (by simp [Value.oneCell']) (by unfold maxLen; omega) (by omega) ?_
                    intro v2 Un hown hBn hkn
                    have hJn : RRJ w #[f0, .slice (some ⟨b3, o3, none⟩) dn dc, .slice (some ⟨b4, o4, none⟩) an ac, v3, v4, v5, v6, .string cur, .int .i64 fst] #[.string person, .int .i64 month, .slice (some ⟨b, off, none⟩) ln lc, .int .i64 gross, .int .i64 tax, .int .i64 deduct, .int .i64 floor, .slice TA tn tc, .int .i64 net] v2 (Rk ++ [⟨dname, amt, tr⟩]) Un := hJ.app hkn hBn hown
                    have hHn : Below w.heap.size w Un ∧ Un.heap[b9]? = some (.cells #[.int .i64 day, .int .i64 (lq : Int), .int .i64 (aq : Int), .int .i64 amt, .slice FA fn fc, .slice RA rn rc] 62 (0, 0)) ∧ Un.heap[b10]? = some (.cells #[.string dname, .string dunit, .int .i64 drole] 66 (0, 0)) := ⟨hBn, (hkn.2 _ (Array.getElem?_eq_some_iff.1 hHeld.2.1).1 (RRJ.neq hJ.own hHeld.2.1 (by decide))).trans hHeld.2.1, (hkn.2 _ (Array.getElem?_eq_some_iff.1 hHeld.2.2).1 (RRJ.neq hJ.own hHeld.2.2 (by decide))).trans hHeld.2.2⟩
                    refine hK.out _ _ hHn (fun hHeldn => ?_)
                    clear hK K
                    try simp only [List.getElem_toArray, List.getElem_cons_zero, List.getElem_cons_succ, Act.put, List.setIfInBounds_toArray, List.set_cons_zero, List.set_cons_succ]
                    refine wpAnyH_take (i := 19) (v := ?_) rfl (by kernel_rfl) (by kernel_rfl) (by kernel_rfl) (fun _ _ _ h => h) (Or.inl ⟨by kernel_rfl, ?_⟩) (by assumption) ?_
                    rotate_left
                    · intro w hSw
                      (try dsimp only at hSw)
                      go_simp
                      first | done | with_reducible rfl
                    simp only [List.getElem_toArray, List.getElem_cons_zero, List.getElem_cons_succ, Act.put, List.setIfInBounds_toArray, List.set_cons_zero, List.set_cons_succ]
                    exact f_9_14_17_18 Un nb v2 ⟨hHn, hJn⟩
                  exact AllReadyH.nil
              case h2 =>
                intro U nb v2 hF
                obtain ⟨hHeld, hJ⟩ := hF
                refine wpAnyH_done (by kernel_rfl) ?_ _
                dsimp only [NoPanic]
                have HJ4 := Lib.hid hJ
                clear hJ hHeld
                go_wp2_with fail
                go_roundw
                case rel => exact ⟨k + 1, by omega, by go_num, by rw [Hnx.out]; exact HJ4.out⟩
                case measure => simp [intOf]; omega
        · have he : (dunit.toList == cur.toList) = false := beq_eq_false_iff_ne.2 (fun e => hu (bytes_extL e))
          have Hnx : Hid ((lines.take (k + 1)).flatMap (rowOf ds nums cur) = Rk) := Lib.hid (by rw [Htk.out, Hrow.out.1 hu, List.append_nil])
          clear hu
          go_wp2_with fail
          go_roundw
          case rel => exact ⟨k + 1, by omega, by go_num, by rw [Hnx.out]; exact HJ2.out⟩
          case measure => simp [intOf]; omega
      · obtain rfl : ln = k := by omega
        obtain ⟨R1, hR1⟩ : ∃ R, lines.flatMap (rowOf ds nums cur) = R := ⟨_, rfl⟩
        have htke : lines.take ln = lines := List.take_of_length_le (by rw [Hn.out.2.2.1]; exact Nat.le_refl _)
        rw [htke, hR1] at HJ
        rw [hR1] at HRL
        have hR1l : R1.length ≤ 1000000 := by
          rw [htke, hR1, Hn.out.2.2.1] at hrl
          omega
        clear hR1 htke hrl hBw
        have hQl0 : R1.length ≤ 1000000 := hR1l
        have c3 : wr.cell? ⟨w.heap.size + 1, 3, none⟩ = some (.int .i64 gross) := by rw [Lib.cell_of_heap HJ.out.bs]; rfl
        have hown0 := HJ.out.own
        have hbe0 := HJ.out.be
        go_wp2_with (at_builtin; refine app_one (w0 := w) rfl _ _ 38 rfl 64 i0 _ 3 40 Tryd.underlying38 hi0 hz0 hz1 hz2 rfl (by decide) _ R1.length _ rfl hown0 hbe0 [.string ⟨#[103, 114, 111, 115, 115]⟩, .int .i64 gross, .string ⟨#[115, 117, 109]⟩] _ _ rfl rfl (by simp [Value.oneCell']) (by unfold maxLen; omega) (by omega) ?_)
        intro va0 X0 ho0 hB0 hk0
        have hJ10 : RRJ w #[f0, .slice DA dn dc, .slice AA an ac, v3, v4, v5, v6, .string cur, .int .i64 fst] #[.string person, .int .i64 month, .slice LA ln lc, .int .i64 gross, .int .i64 tax, .int .i64 deduct, .int .i64 floor, .slice TA tn tc, .int .i64 net] va0 (R1 ++ [⟨⟨#[103, 114, 111, 115, 115]⟩, gross, ⟨#[115, 117, 109]⟩⟩]) X0 := HJ.out.app (x := ⟨⟨#[103, 114, 111, 115, 115]⟩, gross, ⟨#[115, 117, 109]⟩⟩) hk0 hB0 ho0
        obtain ⟨Q1, hq0⟩ : ∃ R, R1 ++ [⟨⟨#[103, 114, 111, 115, 115]⟩, gross, ⟨#[115, 117, 109]⟩⟩] = R := ⟨_, rfl⟩
        rw [hq0] at hJ10
        have hQl1 : Q1.length ≤ 1000001 := by rw [← hq0, List.length_append, List.length_singleton]; omega
        have HQ0 := Lib.hid hq0
        have HJ10 := Lib.hid hJ10
        clear hown0 hbe0 ho0 hB0 hk0 c3 hJ10 hq0 hQl0
        have c4 : X0.cell? ⟨w.heap.size + 1, 4, none⟩ = some (.int .i64 tax) := by rw [Lib.cell_of_heap HJ10.out.bs]; rfl
        have hown1 := HJ10.out.own
        have hbe1 := HJ10.out.be
        go_wp2_with (at_builtin; refine app_one (w0 := w) rfl _ _ 38 rfl 64 i0 _ 3 40 Tryd.underlying38 hi0 hz0 hz1 hz2 rfl (by decide) _ Q1.length _ rfl hown1 hbe1 [.string ⟨#[116, 97, 120]⟩, .int .i64 tax, .string ⟨#[116, 97, 120]⟩] _ _ rfl rfl (by simp [Value.oneCell']) (by unfold maxLen; omega) (by omega) ?_)
        intro va1 X1 ho1 hB1 hk1
        have hJ11 : RRJ w #[f0, .slice DA dn dc, .slice AA an ac, v3, v4, v5, v6, .string cur, .int .i64 fst] #[.string person, .int .i64 month, .slice LA ln lc, .int .i64 gross, .int .i64 tax, .int .i64 deduct, .int .i64 floor, .slice TA tn tc, .int .i64 net] va1 (Q1 ++ [⟨⟨#[116, 97, 120]⟩, tax, ⟨#[116, 97, 120]⟩⟩]) X1 := HJ10.out.app (x := ⟨⟨#[116, 97, 120]⟩, tax, ⟨#[116, 97, 120]⟩⟩) hk1 hB1 ho1
        obtain ⟨Q2, hq1⟩ : ∃ R, Q1 ++ [⟨⟨#[116, 97, 120]⟩, tax, ⟨#[116, 97, 120]⟩⟩] = R := ⟨_, rfl⟩
        rw [hq1] at hJ11
        have hQl2 : Q2.length ≤ 1000002 := by rw [← hq1, List.length_append, List.length_singleton]; omega
        have HQ1 := Lib.hid hq1
        have HJ11 := Lib.hid hJ11
        clear hown1 hbe1 ho1 hB1 hk1 c4 hJ11 hq1 hQl1
        have c5 : X1.cell? ⟨w.heap.size + 1, 5, none⟩ = some (.int .i64 deduct) := by rw [Lib.cell_of_heap HJ11.out.bs]; rfl
        have hown2 := HJ11.out.own
        have hbe2 := HJ11.out.be
        go_wp2_with (at_builtin; refine app_one (w0 := w) rfl _ _ 38 rfl 64 i0 _ 3 40 Tryd.underlying38 hi0 hz0 hz1 hz2 rfl (by decide) _ Q2.length _ rfl hown2 hbe2 [.string ⟨#[100, 101, 100, 117, 99, 116]⟩, .int .i64 deduct, .string ⟨#[115, 117, 109]⟩] _ _ rfl rfl (by simp [Value.oneCell']) (by unfold maxLen; omega) (by omega) ?_)
        intro va2 X2 ho2 hB2 hk2
        have hJ12 : RRJ w #[f0, .slice DA dn dc, .slice AA an ac, v3, v4, v5, v6, .string cur, .int .i64 fst] #[.string person, .int .i64 month, .slice LA ln lc, .int .i64 gross, .int .i64 tax, .int .i64 deduct, .int .i64 floor, .slice TA tn tc, .int .i64 net] va2 (Q2 ++ [⟨⟨#[100, 101, 100, 117, 99, 116]⟩, deduct, ⟨#[115, 117, 109]⟩⟩]) X2 := HJ11.out.app (x := ⟨⟨#[100, 101, 100, 117, 99, 116]⟩, deduct, ⟨#[115, 117, 109]⟩⟩) hk2 hB2 ho2
        obtain ⟨Q3, hq2⟩ : ∃ R, Q2 ++ [⟨⟨#[100, 101, 100, 117, 99, 116]⟩, deduct, ⟨#[115, 117, 109]⟩⟩] = R := ⟨_, rfl⟩
        rw [hq2] at hJ12
        have hQl3 : Q3.length ≤ 1000003 := by rw [← hq2, List.length_append, List.length_singleton]; omega
        have HQ2 := Lib.hid hq2
        have HJ12 := Lib.hid hJ12
        clear hown2 hbe2 ho2 hB2 hk2 c5 hJ12 hq2 hQl2
        have c6 : X2.cell? ⟨w.heap.size + 1, 6, none⟩ = some (.int .i64 floor) := by rw [Lib.cell_of_heap HJ12.out.bs]; rfl
        have hown3 := HJ12.out.own
        have hbe3 := HJ12.out.be
        go_wp2_with (at_builtin; refine app_one (w0 := w) rfl _ _ 38 rfl 64 i0 _ 3 40 Tryd.underlying38 hi0 hz0 hz1 hz2 rfl (by decide) _ Q3.length _ rfl hown3 hbe3 [.string ⟨#[102, 108, 111, 111, 114]⟩, .int .i64 floor, .string ⟨#[115, 117, 109]⟩] _ _ rfl rfl (by simp [Value.oneCell']) (by unfold maxLen; omega) (by omega) ?_)
        intro va3 X3 ho3 hB3 hk3
        have hJ13 : RRJ w #[f0, .slice DA dn dc, .slice AA an ac, v3, v4, v5, v6, .string cur, .int .i64 fst] #[.string person, .int .i64 month, .slice LA ln lc, .int .i64 gross, .int .i64 tax, .int .i64 deduct, .int .i64 floor, .slice TA tn tc, .int .i64 net] va3 (Q3 ++ [⟨⟨#[102, 108, 111, 111, 114]⟩, floor, ⟨#[115, 117, 109]⟩⟩]) X3 := HJ12.out.app (x := ⟨⟨#[102, 108, 111, 111, 114]⟩, floor, ⟨#[115, 117, 109]⟩⟩) hk3 hB3 ho3
        obtain ⟨Q4, hq3⟩ : ∃ R, Q3 ++ [⟨⟨#[102, 108, 111, 111, 114]⟩, floor, ⟨#[115, 117, 109]⟩⟩] = R := ⟨_, rfl⟩
        rw [hq3] at hJ13
        have hQl4 : Q4.length ≤ 1000004 := by rw [← hq3, List.length_append, List.length_singleton]; omega
        have HQ3 := Lib.hid hq3
        have HJ13 := Lib.hid hJ13
        clear hown3 hbe3 ho3 hB3 hk3 c6 hJ13 hq3 hQl3
        have HR2 : Hid (R1 ++ sumsL gross tax deduct floor = Q4) := Lib.hid (by rw [← HQ3.out, ← HQ2.out, ← HQ1.out, ← HQ0.out]; simp [sumsL])
        clear HQ0 HQ1 HQ2 HQ3 hR1l
        go_wp2_with fail
        go_loopw [7, 12] (fun v i wr => ∃ k : Nat, k ≤ tn ∧ i = .int .i64 (k : Int) ∧ RRJ w #[f0, .slice DA dn dc, .slice AA an ac, v3, v4, v5, v6, .string cur, .int .i64 fst] #[.string person, .int .i64 month, .slice LA ln lc, .int .i64 gross, .int .i64 tax, .int .i64 deduct, .int .i64 floor, .slice TA tn tc, .int .i64 net] v (Q4 ++ (taken.take k).map orderR) wr) (fun _ i _ => tn - (intOf i).toNat)
        case atStart => exact ⟨0, Nat.zero_le _, rfl, by simpa using HJ13.out⟩
        case round =>
          obtain ⟨j, hj, rfl, hJ⟩ := hrel
          have HJ := Lib.hid hJ
          have hBw := hJ.be
          have e7 : wr.cell? ⟨w.heap.size + 1, 7, none⟩ = some (.slice TA tn tc) := by rw [Lib.cell_of_heap hJ.bs]; rfl
          clear hJ
          by_cases hjl : j < tn
          · have hjl' : (j : Int) < (tn : Int) := by omega
            have hjk : j < taken.length := by rw [Hn.out.2.2.2]; exact hjl
            obtain ⟨b5, o5, rfl, hb5, hc5⟩ := HST.out.2 (by omega)
            obtain ⟨x, hx⟩ : ∃ x, taken[j] = x := ⟨_, rfl⟩
            have hget := flat_get takenV 2 (fun _ => rfl) taken j hjk
            rw [hx] at hget
            have hxI := Hti.out x (by rw [← hx]; exact List.getElem_mem hjk)
            have Htk : Hid ((taken.take (j + 1)).map orderR = (taken.take j).map orderR ++ [orderR x]) := Lib.hid (by rw [List.take_succ_eq_append_getElem hjk, List.map_append, hx]; rfl)
            have hlen : (Q4 ++ (taken.take j).map orderR).length ≤ 2000004 := by
              rw [List.length_append, List.length_map, List.length_take]
              omega
            obtain ⟨Rk, hRk⟩ : ∃ R, Q4 ++ (taken.take j).map orderR = R := ⟨_, rfl⟩
            rw [hRk] at HJ hlen
            have HRk := Lib.hid hRk
            obtain ⟨x1, x2⟩ := x
            dsimp only at hxI
            have HC : Hid (∀ W, Below w.heap.size w W → W.cell? ⟨b5, o5 + j * 2, none⟩ = some (.int .i64 x1) ∧ W.cell? ⟨b5, o5 + j * 2 + 1, none⟩ = some (.int .i64 x2)) := Lib.hid (fun W hW => by
              have hq : ∀ i u, (taken.flatMap takenV)[j * 2 + i]? = some u → W.cell? ⟨b5, o5 + (j * 2 + i), none⟩ = some u := fun i u hu => (hW.cell (p := ⟨b5, o5 + (j * 2 + i), none⟩) hb5).trans (hc5 _ _ hu)
              exact ⟨hq 0 _ (hget 0 (by decide)), hq 1 _ (hget 1 (by decide))⟩)
            obtain ⟨t1, ht1⟩ : ∃ t, itoaB x1 = t := ⟨_, rfl⟩
            have a1 := itoaB_size x1 hxI.1.1 hxI.1.2
            rw [ht1] at a1
            obtain ⟨tr, htr⟩ : ∃ t, (⟨#[111, 114, 100, 101, 114, 32]⟩ : ByteArray) ++ t1 = t := ⟨_, rfl⟩
            have Hord : Hid (orderR (x1, x2) = ⟨tr, x2, ⟨#[111, 114, 100, 101, 114]⟩⟩) := Lib.hid (by unfold orderR; dsimp only; rw [ht1, htr])
            have H1 := Lib.hid ht1
            have Htr := Lib.hid htr
            have hx1 := hxI.1
            clear hx hget hjk hRk hc5 ht1 htr hxI
            go_upto_region 20 with fail
            clear e7
            have HD0 := Lib.hid (show RRJ w #[f0, .slice DA dn dc, .slice AA an ac, v3, v4, v5, v6, .string cur, .int .i64 fst] #[.string person, .int .i64 month, .slice LA ln lc, .int .i64 gross, .int .i64 tax, .int .i64 deduct, .int .i64 floor, .slice (some ⟨b5, o5, none⟩) tn tc, .int .i64 net] u7 Rk wr.drew from HJ.out.go (Below.refl _ _).drew)
            have hS7 : ∀ W : World, W.heap[w.heap.size + 1]? = some (.cells #[.string person, .int .i64 month, .slice LA ln lc, .int .i64 gross, .int .i64 tax, .int .i64 deduct, .int .i64 floor, .slice (some ⟨b5, o5, none⟩) tn tc, .int .i64 net] 37 (0, 0)) → W.cell? ⟨w.heap.size + 1, 7, none⟩ = some (.slice (some ⟨b5, o5, none⟩) tn tc) := fun W hW => by rw [Lib.cell_of_heap hW]; rfl
            have HS7 := Lib.hid hS7
            clear hS7 hBw
            refine wp_region_noPanic ?_
            refine wp_region_held_drew (S := fun W => Below w.heap.size w W ∧ W.heap[w.heap.size + 1]? = some (.cells #[.string person, .int .i64 month, .slice LA ln lc, .int .i64 gross, .int .i64 tax, .int .i64 deduct, .int .i64 floor, .slice (some ⟨b5, o5, none⟩) tn tc, .int .i64 net] 37 (0, 0))) (by kernel_rfl) ⟨HD0.out.be, HD0.out.bs⟩ (fun hHeld => ?_)
            refine wpAnyH_take (i := 0) (v := ?_) rfl (by kernel_rfl) (by kernel_rfl) (by kernel_rfl) (fun _ _ _ h => h) (Or.inl ⟨by kernel_rfl, ?_⟩) (by assumption) ?_
            rotate_left
            · intro w hSw
              (try dsimp only at hSw)
              go_simp
              first | done | with_reducible rfl
            simp only [List.getElem_toArray, List.getElem_cons_zero, List.getElem_cons_succ, Act.put, List.setIfInBounds_toArray, List.set_cons_zero, List.set_cons_succ]
            refine wpAnyH_take (i := 1) (v := ?_) rfl (by kernel_rfl) (by kernel_rfl) (by kernel_rfl) (fun _ _ _ h => h) (Or.inl ⟨by kernel_rfl, ?_⟩) (by assumption) ?_
            rotate_left
            · intro w hSw
              (try dsimp only at hSw)
              go_simp
              first | done | with_reducible rfl
            simp only [List.getElem_toArray, List.getElem_cons_zero, List.getElem_cons_succ, Act.put, List.setIfInBounds_toArray, List.set_cons_zero, List.set_cons_succ]
            refine wpAnyH_take (i := 2) (v := ?_) rfl (by kernel_rfl) (by kernel_rfl) (by kernel_rfl) (fun _ _ _ h => h) (Or.inl ⟨by kernel_rfl, ?_⟩) (by assumption) ?_
            rotate_left
            · intro w hSw
              (try dsimp only at hSw)
              have z := HS7.out w hSw.2
              go_simp
              first | done | with_reducible rfl
            simp only [List.getElem_toArray, List.getElem_cons_zero, List.getElem_cons_succ, Act.put, List.setIfInBounds_toArray, List.set_cons_zero, List.set_cons_succ]
            refine wpAnyH_take (i := 3) (v := ?_) rfl (by kernel_rfl) (by kernel_rfl) (by kernel_rfl) (fun _ _ _ h => h) (Or.inl ⟨by kernel_rfl, ?_⟩) (by assumption) ?_
            rotate_left
            · intro w hSw
              (try dsimp only at hSw)
              go_simp
              first | done | with_reducible rfl
            simp only [List.getElem_toArray, List.getElem_cons_zero, List.getElem_cons_succ, Act.put, List.setIfInBounds_toArray, List.set_cons_zero, List.set_cons_succ]
            refine wpAnyH_take (i := 4) (v := ?_) rfl (by kernel_rfl) (by kernel_rfl) (by kernel_rfl) (fun _ _ _ h => h) (Or.inl ⟨by kernel_rfl, ?_⟩) (by assumption) ?_
            rotate_left
            · intro w hSw
              (try dsimp only at hSw)
              go_simp
              first | done | with_reducible rfl
            simp only [List.getElem_toArray, List.getElem_cons_zero, List.getElem_cons_succ, Act.put, List.setIfInBounds_toArray, List.set_cons_zero, List.set_cons_succ]
            refine wpAnyH_take (i := 5) (v := ?_) rfl (by kernel_rfl) (by kernel_rfl) (by kernel_rfl) (fun _ _ _ h => h) (Or.inl ⟨by kernel_rfl, ?_⟩) (by assumption) ?_
            rotate_left
            · intro w hSw
              (try dsimp only at hSw)
              go_simp
              first | done | with_reducible rfl
            simp only [List.getElem_toArray, List.getElem_cons_zero, List.getElem_cons_succ, Act.put, List.setIfInBounds_toArray, List.set_cons_zero, List.set_cons_succ]
            refine wpAnyH_take (i := 6) (v := ?_) rfl (by kernel_rfl) (by kernel_rfl) (by kernel_rfl) (fun _ _ _ h => h) (Or.inl ⟨by kernel_rfl, ?_⟩) (by assumption) ?_
            rotate_left
            · intro w hSw
              (try dsimp only at hSw)
              obtain ⟨z0, z1⟩ := HC.out w hSw.1
              go_simp
              first | done | with_reducible rfl
            simp only [List.getElem_toArray, List.getElem_cons_zero, List.getElem_cons_succ, Act.put, List.setIfInBounds_toArray, List.set_cons_zero, List.set_cons_succ]
            refine wpAnyH_take (i := 9) (v := ?_) rfl (by kernel_rfl) (by kernel_rfl) (by kernel_rfl) (fun _ _ _ h => h) (Or.inl ⟨by kernel_rfl, ?_⟩) (by assumption) ?_
            rotate_left
            · intro w hSw
              (try dsimp only at hSw)
              go_simp
              first | done | with_reducible rfl
            simp only [List.getElem_toArray, List.getElem_cons_zero, List.getElem_cons_succ, Act.put, List.setIfInBounds_toArray, List.set_cons_zero, List.set_cons_succ]
            refine wpAnyH_take (i := 10) (v := ?_) rfl (by kernel_rfl) (by kernel_rfl) (by kernel_rfl) (fun _ _ _ h => h) (Or.inl ⟨by kernel_rfl, ?_⟩) (by assumption) ?_
            rotate_left
            · intro w hSw
              (try dsimp only at hSw)
              have z := HS7.out w hSw.2
              go_simp
              first | done | with_reducible rfl
            simp only [List.getElem_toArray, List.getElem_cons_zero, List.getElem_cons_succ, Act.put, List.setIfInBounds_toArray, List.set_cons_zero, List.set_cons_succ]
            refine wpAnyH_take (i := 11) (v := ?_) rfl (by kernel_rfl) (by kernel_rfl) (by kernel_rfl) (fun _ _ _ h => h) (Or.inl ⟨by kernel_rfl, ?_⟩) (by assumption) ?_
            rotate_left
            · intro w hSw
              (try dsimp only at hSw)
              go_simp
              first | done | with_reducible rfl
            simp only [List.getElem_toArray, List.getElem_cons_zero, List.getElem_cons_succ, Act.put, List.setIfInBounds_toArray, List.set_cons_zero, List.set_cons_succ]
            refine wpAnyH_take (i := 12) (v := ?_) rfl (by kernel_rfl) (by kernel_rfl) (by kernel_rfl) (fun _ _ _ h => h) (Or.inl ⟨by kernel_rfl, ?_⟩) (by assumption) ?_
            rotate_left
            · intro w hSw
              (try dsimp only at hSw)
              go_simp
              first | done | with_reducible rfl
            simp only [List.getElem_toArray, List.getElem_cons_zero, List.getElem_cons_succ, Act.put, List.setIfInBounds_toArray, List.set_cons_zero, List.set_cons_succ]
            refine wpAnyH_take (i := 13) (v := ?_) rfl (by kernel_rfl) (by kernel_rfl) (by kernel_rfl) (fun _ _ _ h => h) (Or.inl ⟨by kernel_rfl, ?_⟩) (by assumption) ?_
            rotate_left
            · intro w hSw
              (try dsimp only at hSw)
              go_simp
              first | done | with_reducible rfl
            simp only [List.getElem_toArray, List.getElem_cons_zero, List.getElem_cons_succ, Act.put, List.setIfInBounds_toArray, List.set_cons_zero, List.set_cons_succ]
            refine wpAnyH_take (i := 14) (v := ?_) rfl (by kernel_rfl) (by kernel_rfl) (by kernel_rfl) (fun _ _ _ h => h) (Or.inl ⟨by kernel_rfl, ?_⟩) (by assumption) ?_
            rotate_left
            · intro w hSw
              (try dsimp only at hSw)
              obtain ⟨z0, z1⟩ := HC.out w hSw.1
              go_simp
              first | done | with_reducible rfl
            simp only [List.getElem_toArray, List.getElem_cons_zero, List.getElem_cons_succ, Act.put, List.setIfInBounds_toArray, List.set_cons_zero, List.set_cons_succ]
            refine wpAnyH_ready (rs := [7]) (by kernel_rfl) (by simp) ?_
            refine AllReadyH.cons rfl (fun K hK => ?_) ?_
            · simp only [List.getElem_toArray, List.getElem_cons_zero, List.getElem_cons_succ]
              go_simp
              (with_reducible refine (rnumber_at x1 t1 H1 hx1 wr.drew).mono ?_)
              rintro e U ⟨rfl, hBn⟩
              dsimp only
              have hJ7 := HD0.out.go hBn
              refine hK.out _ _ ⟨hJ7.be, hJ7.bs⟩ (fun hHeld => ?_)
              clear hK K
              try simp only [List.getElem_toArray, List.getElem_cons_zero, List.getElem_cons_succ, Act.put, List.setIfInBounds_toArray, List.set_cons_zero, List.set_cons_succ]
              refine wpAnyH_take (i := 8) (v := .string tr) rfl (by kernel_rfl) (by kernel_rfl) (by kernel_rfl) (fun _ _ _ h => h) (Or.inl ⟨by kernel_rfl, ?_⟩) (by assumption) ?_
              · intro w hSw
                (try dsimp only at hSw)
                go_simp
                first | (rw [if_neg (by omega), Htr.out]) | (rw [if_neg (by omega)]; exact congrArg _ (congrArg _ Htr.out)) | (rw [Htr.out]) | (exact congrArg _ (congrArg _ Htr.out))
              simp only [List.getElem_toArray, List.getElem_cons_zero, List.getElem_cons_succ, Act.put, List.setIfInBounds_toArray, List.set_cons_zero, List.set_cons_succ]
              refine wpAnyH_take (i := 15) (v := ?_) rfl (by kernel_rfl) (by kernel_rfl) (by kernel_rfl) (fun _ _ _ h => h) (Or.inl ⟨by kernel_rfl, ?_⟩) (by assumption) ?_
              rotate_left
              · intro w hSw
                (try dsimp only at hSw)
                go_simp
                first | done | with_reducible rfl
              simp only [List.getElem_toArray, List.getElem_cons_zero, List.getElem_cons_succ, Act.put, List.setIfInBounds_toArray, List.set_cons_zero, List.set_cons_succ]
              refine wpAnyH_ready (rs := [16]) (by kernel_rfl) (by simp) ?_
              refine AllReadyH.cons rfl (fun K hK => ?_) ?_
              · simp only [List.getElem_toArray, List.getElem_cons_zero, List.getElem_cons_succ]
                go_simp
                obtain ⟨Un, hUn⟩ : ∃ x, x = U.alloc (.cells #[.string tr, .int .i64 x2, .string ⟨#[111, 114, 100, 101, 114]⟩] 64) := ⟨_, rfl⟩
                obtain ⟨nb, hnb⟩ : ∃ x, x = U.heap.size := ⟨_, rfl⟩
                have hJ8 : RRJ w #[f0, .slice DA dn dc, .slice AA an ac, v3, v4, v5, v6, .string cur, .int .i64 fst] #[.string person, .int .i64 month, .slice LA ln lc, .int .i64 gross, .int .i64 tax, .int .i64 deduct, .int .i64 floor, .slice (some ⟨b5, o5, none⟩) tn tc, .int .i64 net] u7 Rk Un := by rw [hUn]; exact hJ7.al _
                have hsn : Src Un 3 (.slice (some ⟨nb, 0, none⟩) 1 1) 1 [.string tr, .int .i64 x2, .string ⟨#[111, 114, 100, 101, 114]⟩] := by rw [hUn, hnb]; exact block_src U [.string tr, .int .i64 x2, .string ⟨#[111, 114, 100, 101, 114]⟩] _ _ 1 1 3 rfl
                rw [← hUn]
                try rw [← hnb]
                clear hUn hnb
                refine hK.out _ _ ⟨hJ8.be, hJ8.bs⟩ (fun hHeld => ?_)
                clear hK K
                try simp only [List.getElem_toArray, List.getElem_cons_zero, List.getElem_cons_succ, Act.put, List.setIfInBounds_toArray, List.set_cons_zero, List.set_cons_succ]
                refine wpAnyH_ready (rs := [17]) (by kernel_rfl) (by simp) ?_
                refine AllReadyH.cons rfl (fun K hK => ?_) ?_
                · refine step_src (w0 := w) (by rfl) _ _ 38 (by rfl) 64 i0 (.agg #[.string ⟨#[]⟩, .int .i64 0, .string ⟨#[]⟩]) 3 40 Tryd.underlying38 hi0 hz0 hz1 hz2 (by rfl) (by decide) u7 Rk.length (rowsV Rk) (by rfl) hJ8.own hJ8.be (.slice (some ⟨nb, 0, none⟩) 1 1) 1 [.string tr, .int .i64 x2, .string ⟨#[111, 114, 100, 101, 114]⟩] (by rfl) hsn (by simp [Value.oneCell']) (by unfold maxLen; omega) (by omega) ?_
                  intro v9 W9 hown hB9 hk9
                  have hJ9 : RRJ w #[f0, .slice DA dn dc, .slice AA an ac, v3, v4, v5, v6, .string cur, .int .i64 fst] #[.string person, .int .i64 month, .slice LA ln lc, .int .i64 gross, .int .i64 tax, .int .i64 deduct, .int .i64 floor, .slice (some ⟨b5, o5, none⟩) tn tc, .int .i64 net] v9 (Rk ++ [⟨tr, x2, ⟨#[111, 114, 100, 101, 114]⟩⟩]) W9 := hJ8.app hk9 hB9 hown
                  refine hK.out _ _ ⟨hJ9.be, hJ9.bs⟩ (fun hHeld => ?_)
                  clear hK K
                  try simp only [List.getElem_toArray, List.getElem_cons_zero, List.getElem_cons_succ, Act.put, List.setIfInBounds_toArray, List.set_cons_zero, List.set_cons_succ]
                  refine wpAnyH_take (i := 18) (v := ?_) rfl (by kernel_rfl) (by kernel_rfl) (by kernel_rfl) (fun _ _ _ h => h) (Or.inl ⟨by kernel_rfl, ?_⟩) (by assumption) ?_
                  rotate_left
                  · intro w hSw
                    (try dsimp only at hSw)
                    go_simp
                    first | done | with_reducible rfl
                  simp only [List.getElem_toArray, List.getElem_cons_zero, List.getElem_cons_succ, Act.put, List.setIfInBounds_toArray, List.set_cons_zero, List.set_cons_succ]
                  refine wpAnyH_done (by kernel_rfl) ?_ _
                  dsimp only [NoPanic]
                  have HJ9 := Lib.hid hJ9
                  clear hHeld hJ9 hJ8 hJ7 hown hB9 hk9 hsn
                  go_wp2_with fail
                  go_roundw
                  case rel => exact ⟨j + 1, by omega, by go_num, by rw [Htk.out, ← List.append_assoc, HRk.out, Hord.out]; exact HJ9.out⟩
                  case measure => simp [intOf]; omega
                exact AllReadyH.nil
              exact AllReadyH.nil
            exact AllReadyH.nil
          · obtain rfl : tn = j := by omega
            have hte : taken.take tn = taken := List.take_of_length_le (by rw [Hn.out.2.2.2]; exact Nat.le_refl _)
            rw [hte] at HJ
            obtain ⟨Q5, hQ5⟩ : ∃ R, Q4 ++ taken.map orderR = R := ⟨_, rfl⟩
            rw [hQ5] at HJ
            have hQ5l : Q5.length ≤ 2000004 := by rw [← hQ5, List.length_append, List.length_map, Hn.out.2.2.2]; omega
            have HQ5 := Lib.hid hQ5
            clear hQ5 hte
            have c8 : wr.cell? ⟨w.heap.size + 1, 8, none⟩ = some (.int .i64 net) := by rw [Lib.cell_of_heap HJ.out.bs]; rfl
            have hown := HJ.out.own
            have hbe := HJ.out.be
            clear hBw
            go_wp2_with (at_builtin; refine app_one (w0 := w) rfl _ _ 38 rfl 64 i0 _ 3 40 Tryd.underlying38 hi0 hz0 hz1 hz2 rfl (by decide) _ Q5.length _ rfl hown hbe [.string ⟨#[110, 101, 116]⟩, .int .i64 net, .string ⟨#[114, 101, 115, 116]⟩] _ _ rfl rfl (by simp [Value.oneCell']) (by unfold maxLen; omega) (by omega) ?_)
            intro v9 W9 ho9 hB9 hk9
            obtain ⟨Q6, hQ6⟩ : ∃ R, Q5 ++ [netR net] = R := ⟨_, rfl⟩
            have hJ9 : RRJ w #[f0, .slice DA dn dc, .slice AA an ac, v3, v4, v5, v6, .string cur, .int .i64 fst] #[.string person, .int .i64 month, .slice LA ln lc, .int .i64 gross, .int .i64 tax, .int .i64 deduct, .int .i64 floor, .slice TA tn tc, .int .i64 net] v9 (Q5 ++ [netR net]) W9 := HJ.out.app hk9 hB9 ho9
            rw [hQ6] at hJ9
            have hRL : Q6 = RL := by
              rw [← HRL.out, ← hQ6, ← HQ5.out, ← HR2.out]
              simp
            subst hRL
            have hown9 := hJ9.own
            have hbe9 := hJ9.be
            obtain ⟨n6, hn6⟩ : ∃ n, Q6.length = n := ⟨_, rfl⟩
            rw [hn6] at hown9 HRE
            obtain ⟨A6, c6, hv6, hS6⟩ := own_slice hown9
            subst hv6
            have hn6l : n6 ≤ 2000005 := by rw [← hn6, ← hQ6, List.length_append, List.length_singleton]; omega
            have Ho9 := Lib.hid hown9
            clear hown hbe ho9 hB9 hk9 c8 hJ9 hQ6 hown9 hS6
            by_cases hbig : n6 ≤ 1024
            · have hre : RR = Q6 := by rw [HRE.out, if_pos hbig]
              have hrr : rowsE true Q6.length = 0 := by unfold rowsE; rw [if_pos rfl, if_pos (by rw [hn6]; exact hbig)]
              have hbig' : ¬ (1024 : Int) < (n6 : Int) := by omega
              have Hrr := Lib.hid hrr
              have Hre := Lib.hid hre
              have Hn6 := Lib.hid hn6
              clear hrr hre hn6
              go_wp2_with fail
              refine bodyPost_ret (v := .tuple #[.slice A6 n6 c6, .int .i64 0]) (by simp [results, Tryd.results9, go_sem]) rfl ⟨.slice A6 n6 c6, by rw [Hrr.out], by rw [Hre.out, Hn6.out]; exact Ho9.out, hbe9⟩
            · have hre : RR = [] := by rw [HRE.out, if_neg hbig]
              have hrr : rowsE true Q6.length = 2 := by unfold rowsE; rw [if_pos rfl, if_neg (by rw [hn6]; exact hbig)]
              have hbig' : (1024 : Int) < (n6 : Int) := by omega
              have Hrr := Lib.hid hrr
              have Hre := Lib.hid hre
              have Hn6 := Lib.hid hn6
              clear hrr hre hn6
              go_wp2_with fail
              refine bodyPost_ret (v := .tuple #[.slice none 0 0, .int .i64 2]) (by simp [results, Tryd.results9, go_sem]) rfl ⟨.slice none 0 0, by rw [Hrr.out], by rw [Hre.out]; exact ⟨rfl, .inl ⟨rfl, rfl⟩⟩, hbe9⟩
end Go.Proofs.YtfjkmhbipkoefaaDoor
