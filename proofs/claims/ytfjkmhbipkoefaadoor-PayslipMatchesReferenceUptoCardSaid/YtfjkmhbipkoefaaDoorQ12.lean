/- The walks of payslip's rows and of its iterator. -/
import Derived.Test.YtfjkmhbipkoefaaDoorQ07
import Derived.Test.YtfjkmhbipkoefaaDoorQ03
import Derived.Test.YtfjkmhbipkoefaaDoorQ11
import Derived.StillTailTactics
import Derived.OwnWalkIn
import Derived.TacticsInMore
import Derived.LoopNIn
import Derived.LoopIn
import Derived.RangeFuncBox
import Derived.RangeFuncLeaves
import Derived.Shelf.Abstract
namespace Go.Proofs.YtfjkmhbipkoefaaDoor
open Go.RowKit Go.Shelf
set_option linter.unusedVariables false
set_option linter.unusedSimpArgs false
set_option maxRecDepth 100000
attribute [local go_sem] Oper.semAt_some
instance : Inhabited DeclD := ⟨⟨⟨#[]⟩, ⟨#[]⟩, 0⟩⟩
instance : Inhabited LineM := ⟨⟨0, 0, 0, 0, none, 0, [], none, 0, []⟩⟩
/-- The row of a line, if there is one. -/
noncomputable def rowOf (ds : List DeclD) (nums : List Int) (cur : ByteArray) (x : LineM) : List RowD :=
  if (ds.getD x.line.toNat default).unit = cur ∧ (ds.getD x.line.toNat default).role ≠ 4 then [⟨(ds.getD x.line.toNat default).name, x.amt, reasonB nums x⟩] else []
def tSum : ByteArray := ⟨#[115, 117, 109]⟩
def sumsL (g t d f : Int) : List RowD := [⟨⟨#[103, 114, 111, 115, 115]⟩, g, ⟨#[115, 117, 109]⟩⟩, ⟨⟨#[116, 97, 120]⟩, t, ⟨#[116, 97, 120]⟩⟩, ⟨⟨#[100, 101, 100, 117, 99, 116]⟩, d, ⟨#[115, 117, 109]⟩⟩, ⟨⟨#[102, 108, 111, 111, 114]⟩, f, ⟨#[115, 117, 109]⟩⟩]
def orderR (t : Int × Int) : RowD := ⟨⟨#[111, 114, 100, 101, 114, 32]⟩ ++ itoaB t.1, t.2, ⟨#[111, 114, 100, 101, 114]⟩⟩
def netR (n : Int) : RowD := ⟨⟨#[110, 101, 116]⟩, n, ⟨#[114, 101, 115, 116]⟩⟩
def tailR (s : SlipM) : List RowD := sumsL s.gross s.tax s.deduct s.floor ++ s.taken.map orderR ++ [netR s.net]
noncomputable def rowsL (c : CaseM) (s : SlipM) : List RowD := s.lines.flatMap (rowOf c.ds c.nums c.cur) ++ tailR s
theorem rowsP_any (cv sv : Value) (f0 : Value) (DA : Option Addr) (dn dc : Nat) (AA : Option Addr) (an ac : Nat) (v3 v4 v5 v6 : Value) (cur : ByteArray) (fst : Int) (person : ByteArray) (month : Int) (LA : Option Addr) (ln lc : Nat) (gross tax deduct floor : Int) (TA : Option Addr) (tn tc : Nat) (net : Int) (w : World) :
    Calls Tryd.prog 20 #[.agg #[f0, .slice DA dn dc, .slice AA an ac, v3, v4, v5, v6, .string cur, .int .i64 fst], .agg #[.string person, .int .i64 month, .slice LA ln lc, .int .i64 gross, .int .i64 tax, .int .i64 deduct, .int .i64 floor, .slice TA tn tc, .int .i64 net]] w fun e w' =>
      e = .returned (.func (.func 39) #[] #[.pointer (some ⟨w.heap.size + 1, 0, none⟩), .pointer (some ⟨w.heap.size, 0, none⟩)]) ∧
      (w.alloc (.cells #[f0, .slice DA dn dc, .slice AA an ac, v3, v4, v5, v6, .string cur, .int .i64 fst] 33)).alloc (.cells #[.string person, .int .i64 month, .slice LA ln lc, .int .i64 gross, .int .i64 tax, .int .i64 deduct, .int .i64 floor, .slice TA tn tc, .int .i64 net] 37) = w' := by
  go_enter Tryd.func20, Tryd.ntmps20
  go_wp2
  go_ret
  exact ⟨rfl, rfl⟩
/-- What the iterator needs of each call of yield: the loop may write blocks below B0 and its own block g. -/
def RowsYield (P : Program) (l m B0 : Nat) (R : List RowD) (J : Nat → Nat → World → Prop) (E : World → Prop) : Prop :=
  ∀ (k g : Nat) (W0 W1 : World) (x : RowD), R[k]? = some x → J k g W0 → Below W0.heap.size W0 W1 →
    YieldAt Fence.wide m P l #[.agg #[.string x.l, .int .i64 x.c, .string x.r]] W1 fun e W' => ((e = .returned (.bool true) ∧ ∃ g', J (k + 1) g' W' ∧ (g' = g ∨ W1.heap.size ≤ g')) ∨ (e = .returned (.bool false) ∧ E W')) ∧
      (∀ b, B0 ≤ b → b ≠ g → b < W1.heap.size → W'.heap[b]? = W1.heap[b]?) ∧ W1.heap.size ≤ W'.heap.size
/-- The data that the iterator reads lie in the world. -/
structure RowsAt (W : World) (Bc Bs B0 : Nat) (c : CaseM) (s : SlipM) : Prop where
  hc : CaseOk W c
  hs : SlipOk W s
  ht : CaT.Tabs W
  bc : W.heap[Bc]? = some (.cells #[c.f0, .slice c.LA c.ds.length c.lc, .slice c.AA c.nums.length c.ac, c.v3, c.v4, c.v5, c.v6, .string c.cur, .int .i64 c.fst] 33 (0, 0))
  bs : W.heap[Bs]? = some (.cells #[.string s.person, .int .i64 s.month, .slice s.LA s.lines.length s.lc, .int .i64 s.gross, .int .i64 s.tax, .int .i64 s.deduct, .int .i64 s.floor, .slice s.TA s.taken.length s.tc, .int .i64 s.net] 37 (0, 0))
  lt : B0 ≤ W.heap.size
theorem RowsAt.go {W W' : World} {Bc Bs B0 : Nat} {c : CaseM} {s : SlipM} (h : RowsAt W Bc Bs B0 c s) (k : Below W.heap.size W W') : RowsAt W' Bc Bs B0 c s :=
  ⟨h.hc.go k, h.hs.go k, h.ht.go k, (k.block _ (Array.getElem?_eq_some_iff.1 h.bc).1).trans h.bc, (k.block _ (Array.getElem?_eq_some_iff.1 h.bs).1).trans h.bs, Nat.le_trans h.lt k.size⟩
theorem rowOf_one {ds : List DeclD} {nums : List Int} {cur : ByteArray} {x : LineM} {d : DeclD} (hd : ds.getD x.line.toNat default = d) (h1 : d.unit = cur) (h2 : d.role ≠ 4) : rowOf ds nums cur x = [⟨d.name, x.amt, reasonB nums x⟩] := by
  unfold rowOf; rw [hd, if_pos ⟨h1, h2⟩]
theorem rowOf_none {ds : List DeclD} {nums : List Int} {cur : ByteArray} {x : LineM} {d : DeclD} (hd : ds.getD x.line.toNat default = d) (h : ¬ (d.unit = cur ∧ d.role ≠ 4)) : rowOf ds nums cur x = [] := by
  unfold rowOf; rw [hd, if_neg h]
theorem flat_take {α β : Type} (f : α → List β) (l : List α) (k : Nat) (h : k < l.length) : (l.take (k + 1)).flatMap f = (l.take k).flatMap f ++ f l[k] := by
  rw [List.take_succ_eq_append_getElem h, List.flatMap_append]; simp
theorem flat_row {α β : Type} (f : α → List β) (l : List α) (t : List β) (k : Nat) (h : k < l.length) (r : β) (hr : f l[k] = [r]) : (l.flatMap f ++ t)[((l.take k).flatMap f).length]? = some r := by
  have e : l.flatMap f = (l.take k).flatMap f ++ (r :: (l.drop (k + 1)).flatMap f) := by
    conv => lhs; rw [← List.take_append_drop k l, List.drop_eq_getElem_cons h]
    rw [List.flatMap_append, List.flatMap_cons, hr]
    rfl
  rw [e, List.append_assoc, List.getElem?_append_right (Nat.le_refl _), Nat.sub_self]
  rfl
theorem info_row : (Tryd.prog.info? 64).map (fun i => (i.zero, i.size, i.bytes)) = some (some (.agg #[.string ⟨#[]⟩, .int .i64 0, .string ⟨#[]⟩]), 3, 40) := by kernel_rfl
theorem rowsV_app (l : List RowD) (x : RowD) : rowsV (l ++ [x]) = rowsV l ++ rowV x := by simp [rowsV]
theorem own_lt {W : World} {base : Nat} {e : TypeId} {size n : Nat} {v : Value} {xs : List Value} (h : W.ownsRow base e size v n xs) {b : Nat} (hb : v.ownBlock = some b) : b < W.heap.size := (h.lt b hb).2
def lineA (x : LineM) : Value := .agg #[.int .i64 x.day, .int .i64 x.line, .int .i64 x.art, .int .i64 x.amt, .slice x.FA x.facts.length x.fc, .slice x.RA x.rests.length x.rc]
theorem reason_at (c : CaseM) (x : LineM) (t : ByteArray) (ht : Hid (reasonB c.nums x = t)) (cv lv : Value) (hcv : Hid (caseV c = cv)) (hlv : Hid (lineA x = lv)) (w : World) (hT : CaT.Tabs w) (hc : CaseOk w c) (hx : LineOk w x) (hd0 : 0 ≤ x.day) (hd1 : x.day < 36525) (ha0 : 0 ≤ x.art) (ha1 : x.art < (c.nums.length : Int)) :
    Calls Tryd.prog 40 #[cv, lv] w fun e w' => e = .returned (.string t) ∧ Below w.heap.size w w' := by
  rw [← hcv.out, ← hlv.out]
  exact reason_any c x t ht w hT hc hx hd0 (by omega) ha0 ha1
set_option maxHeartbeats 8000000 in
theorem prow1_any (l m Bc Bs B0 : Nat) (c : CaseM) (s : SlipM) (R : List RowD) (hR : Hid (rowsL c s = R)) (W : World) (J : Nat → Nat → World → Prop) (E : World → Prop) (g0 : Nat)
    (hD : ∀ k g W, J k g W → RowsAt W Bc Bs B0 c s ∧ g < W.heap.size) (hfit : Hid (fitsB c s = true)) (hE : ∀ W, E W → RowsAt W Bc Bs B0 c s) (hJ : J 0 g0 W) (hY : RowsYield Tryd.prog l m B0 R J E) :
    Calls Tryd.prog 39 #[.func (.yield l) #[] #[], .pointer (some ⟨Bs, 0, none⟩), .pointer (some ⟨Bc, 0, none⟩)] W fun r W' => (∃ v, r = .returned v) ∧ ∃ W0, Below W0.heap.size W0 W' ∧ ((∃ g, J R.length g W0) ∨ E W0) := by
  have HD := Lib.hid hD
  have HE := Lib.hid hE
  have HJ := Lib.hid hJ
  have HY := Lib.hid hY
  have hA := (hD 0 g0 W hJ).1
  clear hD hE hJ hY
  obtain ⟨ln, hln⟩ : ∃ n, s.lines.length = n := ⟨_, rfl⟩
  have hll := hA.hs.ll
  rw [hln] at hll
  have hbs := hA.bs
  rw [hln] at hbs
  obtain ⟨LA, hla⟩ : ∃ A, s.LA = A := ⟨_, rfl⟩
  rw [hla] at hbs
  have Hla := Lib.hid hla
  have Hln := Lib.hid hln
  have c2 : W.cell? ⟨Bs, 2, none⟩ = some (.slice LA ln s.lc) := by rw [Lib.cell_of_heap hbs]; rfl
  clear hA hln hbs hla
  go_enter Tryd.func39, Tryd.ntmps39
  go_wp2
  go_loopw [15] (fun i wr => ∃ k : Nat, k ≤ ln ∧ i = .int .i64 (k : Int) ∧ ∃ g W0, J ((s.lines.take k).flatMap (rowOf c.ds c.nums c.cur)).length g W0 ∧ Below W0.heap.size W0 wr) (fun i _ => ln - (intOf i).toNat)
  case atStart => exact ⟨0, Nat.zero_le _, rfl, g0, W, HJ.out, Below.refl _ _⟩
  case round =>
    clear c2
    obtain ⟨k, hk, rfl, g, W0, hJk, hB⟩ := hrel
    have HJk := Lib.hid hJk
    obtain ⟨hat0, hgl⟩ := HD.out _ _ _ hJk
    have hat := hat0.go hB
    clear hat0 hJk
    by_cases hlt : k < ln
    · have hlt' : (k : Int) < (ln : Int) := by omega
      have hkl : k < s.lines.length := by rw [Hln.out]; exact hlt
      obtain ⟨b, off, hLA, hb, hcell⟩ := hat.hs.sl.2 (by omega)
      obtain ⟨x, hx⟩ : ∃ x, s.lines[k] = x := ⟨_, rfl⟩
      have hget := flat_get lineV 6 (fun _ => rfl) s.lines k hkl
      rw [hx] at hget
      have hLx : LineOk wr x := by rw [← hx]; exact hat.hs.ln _ (List.getElem_mem hkl)
      have hfx : lineFit c.ds.length c.nums.length x = true := by
        have := hfit.out
        unfold fitsB at this
        rw [Bool.and_eq_true] at this
        rw [← hx]
        exact List.all_eq_true.1 this.2 _ (List.getElem_mem hkl)
      unfold lineFit at hfx
      rw [Bool.and_eq_true, Bool.and_eq_true, Bool.and_eq_true] at hfx
      obtain ⟨⟨⟨hf1, hf2⟩, hf3⟩, _⟩ := hfx
      obtain ⟨hday0, hday1⟩ := of_decide_eq_true hf1
      obtain ⟨hli0, hli1⟩ := of_decide_eq_true hf2
      obtain ⟨hart0, hart1⟩ := of_decide_eq_true hf3
      have cc : ∀ j v, (lineV x)[j]? = some v → j < 6 → wr.cell? ⟨b, off + (k * 6 + j), none⟩ = some v := fun j v hv hj => (hcell _ _ ((hget j hj).trans hv))
      obtain ⟨p, hp⟩ : ∃ p : Nat, x.line = (p : Int) := Int.eq_ofNat_of_zero_le hli0
      have hpl : p < c.ds.length := by omega
      obtain ⟨b2, off2, hDA, hb2, hcell2⟩ := hat.hc.ld.2 (by omega)
      obtain ⟨d, hd⟩ : ∃ d, c.ds[p] = d := ⟨_, rfl⟩
      have hget2 := flat_get declV 3 (fun _ => rfl) c.ds p hpl
      rw [hd] at hget2
      have cd : ∀ j v, (declV d)[j]? = some v → j < 3 → wr.cell? ⟨b2, off2 + (p * 3 + j), none⟩ = some v := fun j v hv hj => (hcell2 _ _ ((hget2 j hj).trans hv))
      have hdd : c.ds.getD x.line.toNat default = d := by rw [hp, Int.toNat_natCast, List.getD_eq_getElem?_getD, List.getElem?_eq_getElem hpl]; exact hd
      rw [Hla.out] at hLA
      subst hLA
      have hbs := hat.bs
      have hbc := hat.bc
      have hbcl : Bc < wr.heap.size := (Array.getElem?_eq_some_iff.1 hbc).1
      rw [Hla.out, Hln.out] at hbs
      have HDA := Lib.hid hDA
      have Hat := Lib.hid hat
      have HBsz := Lib.hid (And.intro hgl hB.size)
      rw [hDA] at hbc
      obtain ⟨day, line, art, amt, FA, fc, facts, RA, rc, rests⟩ := x
      obtain ⟨dname, dunit, drole⟩ := d
      dsimp only at hp hday0 hday1 hart0 hart1
      subst hp
      obtain ⟨cur, hcur⟩ : ∃ t, c.cur = t := ⟨_, rfl⟩
      obtain ⟨dn, hdn⟩ : ∃ n, c.ds.length = n := ⟨_, rfl⟩
      obtain ⟨fn, hfn⟩ : ∃ n, facts.length = n := ⟨_, rfl⟩
      obtain ⟨rn, hrn⟩ : ∃ n, rests.length = n := ⟨_, rfl⟩
      rw [hdn] at hbc hpl
      rw [hcur] at hbc
      have hpl' : (p : Int) < (dn : Int) := by omega
      have hp0 : (0 : Int) ≤ (p : Int) := Int.natCast_nonneg p
      have y0 : wr.cell? ⟨b, off + k * 6, none⟩ = some (.int .i64 day) := cc 0 _ rfl (by decide)
      have y1 : wr.cell? ⟨b, off + k * 6 + 1, none⟩ = some (.int .i64 (p : Int)) := cc 1 _ rfl (by decide)
      have y2 : wr.cell? ⟨b, off + k * 6 + 2, none⟩ = some (.int .i64 art) := cc 2 _ rfl (by decide)
      have y3 : wr.cell? ⟨b, off + k * 6 + 3, none⟩ = some (.int .i64 amt) := cc 3 _ rfl (by decide)
      have y4 : wr.cell? ⟨b, off + k * 6 + 4, none⟩ = some (.slice FA fn fc) := by rw [← hfn]; exact cc 4 _ rfl (by decide)
      have y5 : wr.cell? ⟨b, off + k * 6 + 5, none⟩ = some (.slice RA rn rc) := by rw [← hrn]; exact cc 5 _ rfl (by decide)
      have z0 : wr.cell? ⟨b2, off2 + p * 3, none⟩ = some (.string dname) := cd 0 _ rfl (by decide)
      have z1 : wr.cell? ⟨b2, off2 + p * 3 + 1, none⟩ = some (.string dunit) := cd 1 _ rfl (by decide)
      have z2 : wr.cell? ⟨b2, off2 + p * 3 + 2, none⟩ = some (.int .i64 drole) := cd 2 _ rfl (by decide)
      have k1 : wr.cell? ⟨Bc, 1, none⟩ = some (.slice (some ⟨b2, off2, none⟩) dn c.lc) := by rw [Lib.cell_of_heap hbc]; rfl
      have k7 : wr.cell? ⟨Bc, 7, none⟩ = some (.string cur) := by rw [Lib.cell_of_heap hbc]; rfl
      have HC := Lib.hid (And.intro hcur (And.intro hdn (And.intro hdd (And.intro hx (And.intro hLx (And.intro hat (And.intro hday0 (And.intro hday1 (And.intro hart0 (And.intro hart1 (And.intro hfn hrn)))))))))))
      clear hcur hdn hdd hx hLx hat cc cd hget hget2 hcell hcell2 hbs hbc hfn hrn hd hf1 hf2 hf3 hday0 hday1 hart0 hart1 hlt hli0 hli1 hDA
      go_upto_region 4 with fail
      obtain ⟨V, hV⟩ : ∃ V, V = (wr.alloc (.cells #[.int .i64 day, .int .i64 (p : Int), .int .i64 art, .int .i64 amt, .slice FA fn fc, .slice RA rn rc] 62)).alloc (.cells #[.string dname, .string dunit, .int .i64 drole] 66) := ⟨_, rfl⟩
      rw [← hV]
      have g1 : V.heap[wr.heap.size + 1]? = some (.cells #[.string dname, .string dunit, .int .i64 drole] 66 (0, 0)) := by rw [hV]; exact heap_alloc2_new wr _ _
      have g2 : V.heap[wr.heap.size]? = some (.cells #[.int .i64 day, .int .i64 (p : Int), .int .i64 art, .int .i64 amt, .slice FA fn fc, .slice RA rn rc] 62 (0, 0)) := by rw [hV]; exact heap_alloc2_old wr _ _
      have hBV : Below wr.heap.size wr V := by rw [hV]; exact bal (bal (Below.refl _ _) _) _
      have hszV : wr.heap.size + 1 < V.heap.size := by rw [hV]; simp
      clear hV
      have v0 : V.cell? ⟨wr.heap.size + 1, 0, none⟩ = some (.string dname) := by rw [Lib.cell_of_heap g1]; rfl
      have v1 : V.cell? ⟨wr.heap.size + 1, 1, none⟩ = some (.string dunit) := by rw [Lib.cell_of_heap g1]; rfl
      have v2 : V.cell? ⟨wr.heap.size + 1, 2, none⟩ = some (.int .i64 drole) := by rw [Lib.cell_of_heap g1]; rfl
      have n5 : V.cell? ⟨Bc, 7, none⟩ = some (.string cur) := (hBV.cell (p := ⟨Bc, 7, none⟩) hbcl).trans k7
      have hatV := HC.out.2.2.2.2.2.1.go hBV
      have G := Lib.hid (And.intro g1 (And.intro g2 hatV))
      have HLV := Lib.hid (HC.out.2.2.2.2.1.go hBV)
      have hB0V := bgo hB hBV
      clear g1 g2 y0 y1 y2 y3 y4 y5 z0 z1 z2 k1 k7 hBV hB hatV
      by_cases hin : dunit = cur ∧ drole ≠ 4
      · obtain ⟨hu, hr4⟩ := hin
        subst hu
        have he : (dunit.toList == dunit.toList) = true := by simp
        have hr : (drole == 4) = false := beq_eq_false_iff_ne.2 hr4
        clear hr4
        obtain ⟨t, ht⟩ : ∃ t, reasonB c.nums ⟨day, (p : Int), art, amt, FA, fc, facts, RA, rc, rests⟩ = t := ⟨_, rfl⟩
        have hone : rowOf c.ds c.nums c.cur s.lines[k] = [⟨dname, amt, t⟩] := by
          rw [HC.out.2.2.2.1, rowOf_one (cur := c.cur) HC.out.2.2.1 HC.out.1.symm (by dsimp only; intro e; rw [e] at hr; cases hr)]
          dsimp only
          rw [ht]
        have Hrow : Hid (R[((s.lines.take k).flatMap (rowOf c.ds c.nums c.cur)).length]? = some ⟨dname, amt, t⟩) := Lib.hid (by rw [← hR.out]; exact flat_row _ _ _ k hkl _ hone)
        have Hnxt : Hid (((s.lines.take (k + 1)).flatMap (rowOf c.ds c.nums c.cur)).length = ((s.lines.take k).flatMap (rowOf c.ds c.nums c.cur)).length + 1) := Lib.hid (by rw [flat_take _ _ _ hkl, hone, List.length_append]; rfl)
        have Ht := Lib.hid ht
        have Hcv : Hid (caseV c = .agg #[c.f0, .slice (some ⟨b2, off2, none⟩) dn c.lc, .slice c.AA c.nums.length c.ac, c.v3, c.v4, c.v5, c.v6, .string dunit, .int .i64 c.fst]) := Lib.hid (by unfold caseV; rw [HDA.out, HC.out.2.1, HC.out.1])
        have Hlv : Hid (lineA ⟨day, (p : Int), art, amt, FA, fc, facts, RA, rc, rests⟩ = .agg #[.int .i64 day, .int .i64 (p : Int), .int .i64 art, .int .i64 amt, .slice FA fn fc, .slice RA rn rc]) := Lib.hid (by unfold lineA; dsimp only; rw [HC.out.2.2.2.2.2.2.2.2.2.2.1, HC.out.2.2.2.2.2.2.2.2.2.2.2])
        have Hbc2 : Hid (∀ W' : World, W'.heap[Bc]? = some (.cells #[c.f0, .slice c.LA c.ds.length c.lc, .slice c.AA c.nums.length c.ac, c.v3, c.v4, c.v5, c.v6, .string c.cur, .int .i64 c.fst] 33 (0, 0)) → W'.heap[Bc]? = some (.cells #[c.f0, .slice (some ⟨b2, off2, none⟩) dn c.lc, .slice c.AA c.nums.length c.ac, c.v3, c.v4, c.v5, c.v6, .string dunit, .int .i64 c.fst] 33 (0, 0))) := Lib.hid (fun W' h => by rw [h, HDA.out, HC.out.2.1, HC.out.1])
        have HbcV : Hid (V.heap[Bc]? = some (.cells #[c.f0, .slice (some ⟨b2, off2, none⟩) dn c.lc, .slice c.AA c.nums.length c.ac, c.v3, c.v4, c.v5, c.v6, .string dunit, .int .i64 c.fst] 33 (0, 0))) := Lib.hid (Hbc2.out _ G.out.2.2.bc)
        have HLd := Lib.hid (show LineOk V.drew ⟨day, (p : Int), art, amt, FA, fc, facts, RA, rc, rests⟩ from HLV.out.go (Below.refl V.heap.size V).drew)
        clear ht hone
        go_upto_region 5 with fail
        have hS0 : (fun w' => w'.heap[wr.heap.size]? = some (.cells #[.int .i64 day, .int .i64 (p : Int), .int .i64 art, .int .i64 amt, .slice FA fn fc, .slice RA rn rc] 62 (0, 0)) ∧ w'.heap[wr.heap.size + 1]? = some (.cells #[.string dname, .string dunit, .int .i64 drole] 66 (0, 0)) ∧ w'.heap[Bc]? = some (.cells #[c.f0, .slice (some ⟨b2, off2, none⟩) dn c.lc, .slice c.AA c.nums.length c.ac, c.v3, c.v4, c.v5, c.v6, .string dunit, .int .i64 c.fst] 33 (0, 0))) V.drew := ⟨G.out.2.1, G.out.1, HbcV.out⟩
        have hatd : RowsAt V.drew Bc Bs B0 c s := G.out.2.2.go (Below.refl V.heap.size V).drew
        have hBVd : Below W0.heap.size W0 V.drew := hB0V.drew
        have hlb : wr.heap.size < V.drew.heap.size := by show wr.heap.size < V.heap.size; omega
        have hdb : wr.heap.size + 1 < V.drew.heap.size := hszV
        have hbcd : Bc < V.drew.heap.size := by show Bc < V.heap.size; omega
        have hg1 : wr.heap.size ≠ g := by have := HBsz.out; omega
        have hg2 : wr.heap.size + 1 ≠ g := by have := HBsz.out; omega
        have hB0a : B0 ≤ wr.heap.size := Hat.out.lt
        clear he hr n5 v0 v1 v2
        refine (wpIn_wide (n := m + 1)).1 ?_
        refine Rng.region_held_in (S := fun w' => w'.heap[wr.heap.size]? = some (.cells #[.int .i64 day, .int .i64 (p : Int), .int .i64 art, .int .i64 amt, .slice FA fn fc, .slice RA rn rc] 62 (0, 0)) ∧ w'.heap[wr.heap.size + 1]? = some (.cells #[.string dname, .string dunit, .int .i64 drole] 66 (0, 0)) ∧ w'.heap[Bc]? = some (.cells #[c.f0, .slice (some ⟨b2, off2, none⟩) dn c.lc, .slice c.AA c.nums.length c.ac, c.v3, c.v4, c.v5, c.v6, .string dunit, .int .i64 c.fst] 33 (0, 0))) (by kernel_rfl) hS0 (fun hHeld => ?_)
        clear hS0
        refine Rng.held_take (i := 0) (v := ?_) rfl (by kernel_rfl) (by kernel_rfl) (by kernel_rfl) (fun _ _ _ h => h) (Or.inl ⟨by kernel_rfl, ?_⟩) (by assumption) ?_
        rotate_left
        · intro w hSw
          (try dsimp only at hSw)
          go_simp
          first | done | with_reducible rfl
        simp only [List.getElem_toArray, List.getElem_cons_zero, List.getElem_cons_succ, Act.put, List.setIfInBounds_toArray, List.set_cons_zero, List.set_cons_succ]
        refine Rng.held_take (i := 1) (v := ?_) rfl (by kernel_rfl) (by kernel_rfl) (by kernel_rfl) (fun _ _ _ h => h) (Or.inl ⟨by kernel_rfl, ?_⟩) (by assumption) ?_
        rotate_left
        · intro w hSw
          (try dsimp only at hSw)
          go_simp
          first | done | with_reducible rfl
        simp only [List.getElem_toArray, List.getElem_cons_zero, List.getElem_cons_succ, Act.put, List.setIfInBounds_toArray, List.set_cons_zero, List.set_cons_succ]
        refine Rng.held_take (i := 2) (v := ?_) rfl (by kernel_rfl) (by kernel_rfl) (by kernel_rfl) (fun _ _ _ h => h) (Or.inl ⟨by kernel_rfl, ?_⟩) (by assumption) ?_
        rotate_left
        · intro w hSw
          (try dsimp only at hSw)
          obtain ⟨q1, q2, q3⟩ := hSw
          have z0 : w.cell? ⟨wr.heap.size + 1, 0, none⟩ = some (.string dname) := by rw [Lib.cell_of_heap q2]; rfl
          go_simp
          first | done | with_reducible rfl
        simp only [List.getElem_toArray, List.getElem_cons_zero, List.getElem_cons_succ, Act.put, List.setIfInBounds_toArray, List.set_cons_zero, List.set_cons_succ]
        refine Rng.held_take (i := 3) (v := ?_) rfl (by kernel_rfl) (by kernel_rfl) (by kernel_rfl) (fun _ _ _ h => h) (Or.inl ⟨by kernel_rfl, ?_⟩) (by assumption) ?_
        rotate_left
        · intro w hSw
          (try dsimp only at hSw)
          go_simp
          first | done | with_reducible rfl
        simp only [List.getElem_toArray, List.getElem_cons_zero, List.getElem_cons_succ, Act.put, List.setIfInBounds_toArray, List.set_cons_zero, List.set_cons_succ]
        refine Rng.held_take (i := 4) (v := ?_) rfl (by kernel_rfl) (by kernel_rfl) (by kernel_rfl) (fun _ _ _ h => h) (Or.inl ⟨by kernel_rfl, ?_⟩) (by assumption) ?_
        rotate_left
        · intro w hSw
          (try dsimp only at hSw)
          obtain ⟨q1, q2, q3⟩ := hSw
          have z3 : w.cell? ⟨wr.heap.size, 3, none⟩ = some (.int .i64 amt) := by rw [Lib.cell_of_heap q1]; rfl
          go_simp
          first | done | with_reducible rfl
        simp only [List.getElem_toArray, List.getElem_cons_zero, List.getElem_cons_succ, Act.put, List.setIfInBounds_toArray, List.set_cons_zero, List.set_cons_succ]
        refine Rng.held_take (i := 5) (v := ?_) rfl (by kernel_rfl) (by kernel_rfl) (by kernel_rfl) (fun _ _ _ h => h) (Or.inl ⟨by kernel_rfl, ?_⟩) (by assumption) ?_
        rotate_left
        · intro w hSw
          (try dsimp only at hSw)
          obtain ⟨q1, q2, q3⟩ := hSw
          have z0 : w.cell? ⟨Bc, 0, none⟩ = some (c.f0) := by rw [Lib.cell_of_heap q3]; rfl
          have z1 : w.cell? ⟨Bc, 1, none⟩ = some (.slice (some ⟨b2, off2, none⟩) dn c.lc) := by rw [Lib.cell_of_heap q3]; rfl
          have z2 : w.cell? ⟨Bc, 2, none⟩ = some (.slice c.AA c.nums.length c.ac) := by rw [Lib.cell_of_heap q3]; rfl
          have z3 : w.cell? ⟨Bc, 3, none⟩ = some (c.v3) := by rw [Lib.cell_of_heap q3]; rfl
          have z4 : w.cell? ⟨Bc, 4, none⟩ = some (c.v4) := by rw [Lib.cell_of_heap q3]; rfl
          have z5 : w.cell? ⟨Bc, 5, none⟩ = some (c.v5) := by rw [Lib.cell_of_heap q3]; rfl
          have z6 : w.cell? ⟨Bc, 6, none⟩ = some (c.v6) := by rw [Lib.cell_of_heap q3]; rfl
          have z7 : w.cell? ⟨Bc, 7, none⟩ = some (.string dunit) := by rw [Lib.cell_of_heap q3]; rfl
          have z8 : w.cell? ⟨Bc, 8, none⟩ = some (.int .i64 c.fst) := by rw [Lib.cell_of_heap q3]; rfl
          clear q1 q2 q3
          go_simp
          first | done | with_reducible rfl
        simp only [List.getElem_toArray, List.getElem_cons_zero, List.getElem_cons_succ, Act.put, List.setIfInBounds_toArray, List.set_cons_zero, List.set_cons_succ]
        refine Rng.held_take (i := 6) (v := ?_) rfl (by kernel_rfl) (by kernel_rfl) (by kernel_rfl) (fun _ _ _ h => h) (Or.inl ⟨by kernel_rfl, ?_⟩) (by assumption) ?_
        rotate_left
        · intro w hSw
          (try dsimp only at hSw)
          obtain ⟨q1, q2, q3⟩ := hSw
          have z0 : w.cell? ⟨wr.heap.size, 0, none⟩ = some (.int .i64 day) := by rw [Lib.cell_of_heap q1]; rfl
          have z1 : w.cell? ⟨wr.heap.size, 1, none⟩ = some (.int .i64 (p : Int)) := by rw [Lib.cell_of_heap q1]; rfl
          have z2 : w.cell? ⟨wr.heap.size, 2, none⟩ = some (.int .i64 art) := by rw [Lib.cell_of_heap q1]; rfl
          have z3 : w.cell? ⟨wr.heap.size, 3, none⟩ = some (.int .i64 amt) := by rw [Lib.cell_of_heap q1]; rfl
          have z4 : w.cell? ⟨wr.heap.size, 4, none⟩ = some (.slice FA fn fc) := by rw [Lib.cell_of_heap q1]; rfl
          have z5 : w.cell? ⟨wr.heap.size, 5, none⟩ = some (.slice RA rn rc) := by rw [Lib.cell_of_heap q1]; rfl
          clear q1 q2 q3
          go_simp
          first | done | with_reducible rfl
        simp only [List.getElem_toArray, List.getElem_cons_zero, List.getElem_cons_succ, Act.put, List.setIfInBounds_toArray, List.set_cons_zero, List.set_cons_succ]
        refine Rng.held_ready (rs := [7]) (by kernel_rfl) (by simp) ?_
        refine Rng.allHeld.cons rfl (fun K hK => ?_) Rng.allHeld.nil
        simp only [List.getElem_toArray, List.getElem_cons_zero, List.getElem_cons_succ]
        go_simp
        refine ⟨trivial, ?_⟩
        (with_reducible refine (callsIn_wide.2 (reason_at c ⟨day, (p : Int), art, amt, FA, fc, facts, RA, rc, rests⟩ t Ht _ _ Hcv Hlv V.drew hatd.ht hatd.hc HLd.out HC.out.2.2.2.2.2.2.1 HC.out.2.2.2.2.2.2.2.1 HC.out.2.2.2.2.2.2.2.2.1 HC.out.2.2.2.2.2.2.2.2.2.1)).mono ?_)
        rintro e w1 ⟨rfl, hB1⟩
        dsimp only
        have hD1 : Below V.drew.heap.size V.drew w1 := hB1
        refine hK.out _ _ ⟨(hD1.block _ hlb).trans G.out.2.1, (hD1.block _ hdb).trans G.out.1, (hD1.block _ hbcd).trans HbcV.out⟩ (fun hHeld => ?_)
        clear hK K
        try simp only [List.getElem_toArray, List.getElem_cons_zero, List.getElem_cons_succ, Act.put, List.setIfInBounds_toArray, List.set_cons_zero, List.set_cons_succ]
        refine Rng.held_take (i := 8) (v := ?_) rfl (by kernel_rfl) (by kernel_rfl) (by kernel_rfl) (fun _ _ _ h => h) (Or.inl ⟨by kernel_rfl, ?_⟩) (by assumption) ?_
        rotate_left
        · intro w hSw
          (try dsimp only at hSw)
          go_simp
          first | done | with_reducible rfl
        simp only [List.getElem_toArray, List.getElem_cons_zero, List.getElem_cons_succ, Act.put, List.setIfInBounds_toArray, List.set_cons_zero, List.set_cons_succ]
        refine Rng.held_ready (rs := [9]) (by kernel_rfl) (by simp) ?_
        refine Rng.allHeld.cons rfl (fun K hK => ?_) Rng.allHeld.nil
        simp only [List.getElem_toArray, List.getElem_cons_zero, List.getElem_cons_succ]
        have hyl := HY.out _ g W0 w1 _ Hrow.out HJk.out (bgo hBVd hD1)
        dsimp only at hyl
        obtain ⟨fnY, tmpsY, assignY, bodyY, hy, hR1⟩ := hyl
        have HR1 := Lib.hid hR1
        clear hR1
        go_simp
        refine HR1.out.mono ?_
        rintro e W2 ⟨hres0, hkeep, hsz2⟩
        have hsz1 := hD1.size
        have hst : RowsAt W2 Bc Bs B0 c s := by
          rcases hres0 with ⟨_, g', h2, _⟩ | ⟨_, h2⟩
          · exact (HD.out _ _ _ h2).1
          · exact HE.out _ h2
        have hl2 : W2.heap[wr.heap.size]? = some (.cells #[.int .i64 day, .int .i64 (p : Int), .int .i64 art, .int .i64 amt, .slice FA fn fc, .slice RA rn rc] 62 (0, 0)) := (hkeep _ hB0a hg1 (by omega)).trans ((hD1.block _ hlb).trans G.out.2.1)
        have hd2 : W2.heap[wr.heap.size + 1]? = some (.cells #[.string dname, .string dunit, .int .i64 drole] 66 (0, 0)) := (hkeep _ (by omega) hg2 (by omega)).trans ((hD1.block _ hdb).trans G.out.1)
        have hc2 : W2.heap[Bc]? = some (.cells #[c.f0, .slice (some ⟨b2, off2, none⟩) dn c.lc, .slice c.AA c.nums.length c.ac, c.v3, c.v4, c.v5, c.v6, .string dunit, .int .i64 c.fst] 33 (0, 0)) := Hbc2.out _ hst.bc
        obtain ⟨bb, he, hres⟩ : ∃ bb, e = .returned (.bool bb) ∧ (if bb = true then ∃ g', J ((s.lines.take (k + 1)).flatMap (rowOf c.ds c.nums c.cur)).length g' W2 else E W2) := by
          rcases hres0 with ⟨h1, g', h2, _⟩ | ⟨h1, h2⟩
          · exact ⟨true, h1, by rw [if_pos rfl, Hnxt.out]; exact ⟨g', h2⟩⟩
          · exact ⟨false, h1, h2⟩
        subst he
        have Hres := Lib.hid hres
        clear hres hres0 hkeep hy
        go_simp
        refine hK.out _ _ ⟨hl2, hd2, hc2⟩ (fun hHeld => ?_)
        clear hl2 hd2 hc2
        clear hK K
        try simp only [List.getElem_toArray, List.getElem_cons_zero, List.getElem_cons_succ, Act.put, List.setIfInBounds_toArray, List.set_cons_zero, List.set_cons_succ]
        refine Rng.held_take (i := 10) (v := ?_) rfl (by kernel_rfl) (by kernel_rfl) (by kernel_rfl) (fun _ _ _ h => h) (Or.inl ⟨by kernel_rfl, ?_⟩) (by assumption) ?_
        rotate_left
        · intro w hSw
          (try dsimp only at hSw)
          go_simp
          first | done | with_reducible rfl
        simp only [List.getElem_toArray, List.getElem_cons_zero, List.getElem_cons_succ, Act.put, List.setIfInBounds_toArray, List.set_cons_zero, List.set_cons_succ]
        refine Rng.held_done (by kernel_rfl) ?_ _
        clear hHeld
        cases bb
        · go_wp2
          refine bodyPost_ret (results_none rfl _ _ _) rfl ?_
          exact ⟨⟨_, rfl⟩, W2, Below.refl _ _, .inr Hres.out⟩
        · obtain ⟨g', hJ2⟩ : ∃ g', J ((s.lines.take (k + 1)).flatMap (rowOf c.ds c.nums c.cur)).length g' W2 := Hres.out
          have HJ2 := Lib.hid hJ2
          clear hJ2 hst
          go_wp2
          go_roundw
          case rel => exact ⟨k + 1, by omega, by go_num, g', W2, HJ2.out, Below.refl _ _⟩
          case measure => simp [intOf]; omega
      · have hrow := rowOf_none (cur := c.cur) (nums := c.nums) HC.out.2.2.1 (by rw [HC.out.1]; exact hin)
        have Hrow := Lib.hid hrow
        clear hrow
        by_cases hu : dunit = cur
        · subst hu
          have he : (dunit.toList == dunit.toList) = true := by simp
          have hr : drole = 4 := Classical.byContradiction (fun h => hin ⟨rfl, h⟩)
          subst hr
          clear hin
          go_wp2
          go_roundw
          case rel =>
            refine ⟨k + 1, by omega, by go_num, g, W0, ?_, hB0V⟩
            rw [flat_take _ _ _ hkl, HC.out.2.2.2.1, Hrow.out, List.append_nil]
            exact HJk.out
          case measure => simp [intOf]; omega
        · have he : (dunit.toList == cur.toList) = false := beq_eq_false_iff_ne.2 (fun e => hu (bytes_extL e))
          clear hin hu
          go_wp2
          go_roundw
          case rel =>
            refine ⟨k + 1, by omega, by go_num, g, W0, ?_, hB0V⟩
            rw [flat_take _ _ _ hkl, HC.out.2.2.2.1, Hrow.out, List.append_nil]
            exact HJk.out
          case measure => simp [intOf]; omega
    · obtain rfl : k = ln := by omega
      obtain ⟨wo, rfl⟩ : ∃ wo, wo = wr := ⟨_, rfl⟩
      have htk : s.lines.take k = s.lines := List.take_of_length_le (by rw [Hln.out]; exact Nat.le_refl _)
      rw [htk] at HJk
      clear htk
      obtain ⟨N1, hN1⟩ : ∃ n, (s.lines.flatMap (rowOf c.ds c.nums c.cur)).length = n := ⟨_, rfl⟩
      rw [hN1] at HJk
      have HN1 := Lib.hid hN1
      clear hN1
      have hbs := hat.bs
      have hsg : Bs < wo.heap.size := (Array.getElem?_eq_some_iff.1 hbs).1
      obtain ⟨person, month, LA', lc, lines, gross, tax, deduct, floor, TA, tc, taken, net⟩ := s
      dsimp only at hbs
      obtain ⟨tn, htn⟩ : ∃ n, taken.length = n := ⟨_, rfl⟩
      have htl : tn ≤ 1000000 := by rw [← htn]; exact hat.hs.lt
      rw [htn] at hbs
      have f3 : wo.cell? ⟨Bs, 3, none⟩ = some (.int .i64 gross) := by rw [Lib.cell_of_heap hbs]; rfl
      have f4 : wo.cell? ⟨Bs, 4, none⟩ = some (.int .i64 tax) := by rw [Lib.cell_of_heap hbs]; rfl
      have f5 : wo.cell? ⟨Bs, 5, none⟩ = some (.int .i64 deduct) := by rw [Lib.cell_of_heap hbs]; rfl
      have f6 : wo.cell? ⟨Bs, 6, none⟩ = some (.int .i64 floor) := by rw [Lib.cell_of_heap hbs]; rfl
      have f7 : wo.cell? ⟨Bs, 7, none⟩ = some (.slice TA tn tc) := by rw [Lib.cell_of_heap hbs]; rfl
      have f8 : wo.cell? ⟨Bs, 8, none⟩ = some (.int .i64 net) := by rw [Lib.cell_of_heap hbs]; rfl
      have Htn := Lib.hid htn
      have Hat := Lib.hid hat
      have HBsz := Lib.hid (And.intro hgl hB.size)
      clear hbs htn hat
      have hN0 : wo.ownsRow wo.heap.size 64 3 (.slice none 0 0) 0 [] := ⟨rfl, .inl ⟨rfl, rfl⟩⟩
      go_wp2
      have hown0 : (wo.alloc (.cells #[.string ⟨#[103, 114, 111, 115, 115]⟩, .int .i64 gross, .string ⟨#[115, 117, 109]⟩, .string ⟨#[116, 97, 120]⟩, .int .i64 tax, .string ⟨#[116, 97, 120]⟩, .string ⟨#[100, 101, 100, 117, 99, 116]⟩, .int .i64 deduct, .string ⟨#[115, 117, 109]⟩, .string ⟨#[102, 108, 111, 111, 114]⟩, .int .i64 floor, .string ⟨#[115, 117, 109]⟩] 64)).ownsRow wo.heap.size 64 3 (.slice (some ⟨wo.heap.size, 0, none⟩) 4 4) 4 (rowsV (sumsL gross tax deduct floor)) :=
        ⟨rfl, .inr ⟨_, 4, _, rfl, Nat.le_refl _, World.alloc_heap_new _ _, by decide, by decide, rfl, rfl⟩⟩
      have Hown0 := Lib.hid hown0
      clear hown0 hN0
      go_loopw [7, 64] (fun v q wx => ∃ j : Nat, j ≤ tn ∧ q = .int .i64 (j : Int) ∧ wx.ownsRow wo.heap.size 64 3 v (4 + j) (rowsV (sumsL gross tax deduct floor ++ (taken.take j).map orderR)) ∧ Below wo.heap.size wo wx) (fun _ q _ => tn - (intOf q).toNat)
      case atStart => exact ⟨0, Nat.zero_le _, rfl, by simpa using Hown0.out, bal (Below.refl _ _) _⟩
      case round =>
        clear f3 f4 f5 f6 f7
        obtain ⟨j, hj, rfl, hown, hBx⟩ := hrel
        have HO := Lib.hid hown
        clear hown
        by_cases hjt : j < tn
        · have hjt' : (j : Int) < (tn : Int) := by omega
          obtain ⟨b, off, rfl, hb, hcell⟩ := Hat.out.hs.st.2 (by dsimp only; rw [Htn.out]; omega)
          have hjl : j < taken.length := by rw [Htn.out]; exact hjt
          obtain ⟨x, hx⟩ : ∃ x, taken[j] = x := ⟨_, rfl⟩
          have hget := flat_get takenV 2 (fun _ => rfl) taken j hjl
          rw [hx] at hget
          obtain ⟨hxa, hxc⟩ : I64 x.1 ∧ I64 x.2 := by rw [← hx]; exact Hat.out.hs.ti _ (List.getElem_mem hjl)
          obtain ⟨a, ct⟩ := x
          have y0 : wr.cell? ⟨b, off + j * 2, none⟩ = some (.int .i64 a) := (hBx.cell (p := ⟨b, off + j * 2, none⟩) hb).trans (hcell _ _ (hget 0 (by decide)))
          have y1 : wr.cell? ⟨b, off + j * 2 + 1, none⟩ = some (.int .i64 ct) := (hBx.cell (p := ⟨b, off + j * 2 + 1, none⟩) hb).trans (hcell _ _ (hget 1 (by decide)))
          have Hx := Lib.hid hx
          clear hx hget hcell
          go_upto_region 11 with fail
          obtain ⟨V, hV⟩ : ∃ V, V = wr.alloc (.cells #[.int .i64 a, .int .i64 ct] 78) := ⟨_, rfl⟩
          rw [← hV]
          have gV : V.heap[wr.heap.size]? = some (.cells #[.int .i64 a, .int .i64 ct] 78 (0, 0)) := by rw [hV]; exact World.alloc_heap_new _ _
          have hBV : Below wr.heap.size wr V := by rw [hV]; exact bal (Below.refl _ _) _
          have hszV : wr.heap.size < V.heap.size := by rw [hV]; simp
          clear hV y0 y1
          obtain ⟨t, ht⟩ : ∃ t, itoaB a = t := ⟨_, rfl⟩
          have hts := itoaB_size a hxa.1 hxa.2
          rw [ht] at hts
          have HS : Hid (rowsV (sumsL gross tax deduct floor ++ (taken.take (j + 1)).map orderR) = rowsV (sumsL gross tax deduct floor ++ (taken.take j).map orderR) ++ [.string ((⟨#[111, 114, 100, 101, 114, 32]⟩ : ByteArray) ++ t), .int .i64 ct, .string ⟨#[111, 114, 100, 101, 114]⟩]) := Lib.hid (by
            rw [List.take_succ_eq_append_getElem hjl, List.map_append, ← List.append_assoc, List.map_cons, List.map_nil, rowsV_app, Hx.out, ← ht]
            rfl)
          have Ht := Lib.hid ht
          have hzz : ¬ (9223372036854775807 < 6 + t.size) := by omega
          have hBVd : Below wo.heap.size wo V.drew := (bgo hBx hBV).drew
          have hVd : wr.heap.size < V.drew.heap.size := hszV
          have HownV := Lib.hid (own_below HO.out hBV.drew)
          have hTd : CaT.Tabs V.drew := Hat.out.ht.go hBVd
          have hnb : u7.ownBlock ≠ some wr.heap.size := fun e => absurd (own_lt HO.out e) (Nat.lt_irrefl _)
          have HNB := Lib.hid hnb
          have GV := Lib.hid (show V.drew.heap[wr.heap.size]? = some (.cells #[.int .i64 a, .int .i64 ct] 78 (0, 0)) from gV)
          obtain ⟨i0, hi0, hz0, hz1, hz2⟩ := info_parts info_row
          clear ht gV hBx hnb hxc
          refine wp_region_noPanic ?_
          refine wp_region_held_drew (S := fun w' => w'.heap[wr.heap.size]? = some (.cells #[.int .i64 a, .int .i64 ct] 78 (0, 0))) (by kernel_rfl) GV.out (fun hHeld => ?_)
          refine wpAnyH_take (i := 0) (v := ?_) rfl (by kernel_rfl) (by kernel_rfl) (by kernel_rfl) (fun _ _ _ h => h) (Or.inl ⟨by kernel_rfl, ?_⟩) (by assumption) ?_
          rotate_left
          · intro w hSw
            (try dsimp only at hSw)
            go_simp
            first | done | with_reducible rfl
          simp only [List.getElem_toArray, List.getElem_cons_zero, List.getElem_cons_succ, Act.put, List.setIfInBounds_toArray, List.set_cons_zero, List.set_cons_succ]
          refine wpAnyH_take (i := 1) (v := ?_) rfl (by kernel_rfl) (by kernel_rfl) (by kernel_rfl) (fun _ _ _ h => h) (Or.inl ⟨by kernel_rfl, ?_⟩) (by assumption) ?_
          rotate_left
          · intro w hSw
            (try dsimp only at hSw)
            go_simp
            first | done | with_reducible rfl
          simp only [List.getElem_toArray, List.getElem_cons_zero, List.getElem_cons_succ, Act.put, List.setIfInBounds_toArray, List.set_cons_zero, List.set_cons_succ]
          refine wpAnyH_take (i := 2) (v := ?_) rfl (by kernel_rfl) (by kernel_rfl) (by kernel_rfl) (fun _ _ _ h => h) (Or.inl ⟨by kernel_rfl, ?_⟩) (by assumption) ?_
          rotate_left
          · intro w hSw
            (try dsimp only at hSw)
            have z0 : w.cell? ⟨wr.heap.size, 0, none⟩ = some (.int .i64 a) := by rw [Lib.cell_of_heap hSw]; rfl
            go_simp
            first | done | with_reducible rfl
          simp only [List.getElem_toArray, List.getElem_cons_zero, List.getElem_cons_succ, Act.put, List.setIfInBounds_toArray, List.set_cons_zero, List.set_cons_succ]
          refine wpAnyH_take (i := 5) (v := ?_) rfl (by kernel_rfl) (by kernel_rfl) (by kernel_rfl) (fun _ _ _ h => h) (Or.inl ⟨by kernel_rfl, ?_⟩) (by assumption) ?_
          rotate_left
          · intro w hSw
            (try dsimp only at hSw)
            go_simp
            first | done | with_reducible rfl
          simp only [List.getElem_toArray, List.getElem_cons_zero, List.getElem_cons_succ, Act.put, List.setIfInBounds_toArray, List.set_cons_zero, List.set_cons_succ]
          refine wpAnyH_take (i := 6) (v := ?_) rfl (by kernel_rfl) (by kernel_rfl) (by kernel_rfl) (fun _ _ _ h => h) (Or.inl ⟨by kernel_rfl, ?_⟩) (by assumption) ?_
          rotate_left
          · intro w hSw
            (try dsimp only at hSw)
            have z0 : w.cell? ⟨wr.heap.size, 1, none⟩ = some (.int .i64 ct) := by rw [Lib.cell_of_heap hSw]; rfl
            go_simp
            first | done | with_reducible rfl
          simp only [List.getElem_toArray, List.getElem_cons_zero, List.getElem_cons_succ, Act.put, List.setIfInBounds_toArray, List.set_cons_zero, List.set_cons_succ]
          refine wpAnyH_ready (rs := [3]) (by kernel_rfl) (by simp) ?_
          refine AllReadyH.cons rfl (fun K hK => ?_) AllReadyH.nil
          simp only [List.getElem_toArray, List.getElem_cons_zero, List.getElem_cons_succ]
          go_simp
          (with_reducible refine (itoa_at a t Ht hxa V.drew hTd).mono ?_)
          rintro e w1 ⟨rfl, hB1⟩
          dsimp only
          have hD1 : Below V.drew.heap.size V.drew w1 := hB1
          refine hK.out _ _ ((hD1.block _ hVd).trans GV.out) (fun hHeld => ?_)
          clear hK K
          try simp only [List.getElem_toArray, List.getElem_cons_zero, List.getElem_cons_succ, Act.put, List.setIfInBounds_toArray, List.set_cons_zero, List.set_cons_succ]
          refine wpAnyH_take (i := 4) (v := ?_) rfl (by kernel_rfl) (by kernel_rfl) (by kernel_rfl) (fun _ _ _ h => h) (Or.inl ⟨by kernel_rfl, ?_⟩) (by assumption) ?_
          rotate_left
          · intro w hSw
            (try dsimp only at hSw)
            go_simp
            first | done | with_reducible rfl
          simp only [List.getElem_toArray, List.getElem_cons_zero, List.getElem_cons_succ, Act.put, List.setIfInBounds_toArray, List.set_cons_zero, List.set_cons_succ]
          refine wpAnyH_take (i := 7) (v := ?_) rfl (by kernel_rfl) (by kernel_rfl) (by kernel_rfl) (fun _ _ _ h => h) (Or.inl ⟨by kernel_rfl, ?_⟩) (by assumption) ?_
          rotate_left
          · intro w hSw
            (try dsimp only at hSw)
            go_simp
            first | done | with_reducible rfl
          simp only [List.getElem_toArray, List.getElem_cons_zero, List.getElem_cons_succ, Act.put, List.setIfInBounds_toArray, List.set_cons_zero, List.set_cons_succ]
          refine wpAnyH_ready (rs := [8]) (by kernel_rfl) (by simp) ?_
          refine AllReadyH.cons rfl (fun K hK => ?_) AllReadyH.nil
          simp only [List.getElem_toArray, List.getElem_cons_zero, List.getElem_cons_succ]
          go_simp
          refine hK.out _ _ (((bal hD1 _).block _ hVd).trans GV.out) (fun hHeld => ?_)
          clear hK K
          try simp only [List.getElem_toArray, List.getElem_cons_zero, List.getElem_cons_succ, Act.put, List.setIfInBounds_toArray, List.set_cons_zero, List.set_cons_succ]
          refine wpAnyH_ready (rs := [9]) (by kernel_rfl) (by simp) ?_
          refine AllReadyH.cons rfl (fun K hK => ?_) AllReadyH.nil
          refine step_src (w0 := wo) (by rfl) _ _ 38 (by rfl) 64 i0 (.agg #[.string ⟨#[]⟩, .int .i64 0, .string ⟨#[]⟩]) 3 40 Tryd.underlying38 hi0 hz0 hz1 hz2 (by rfl) (by decide) u7 (4 + j) (rowsV (sumsL gross tax deduct floor ++ (taken.take j).map orderR)) (by rfl) ((own_below HownV.out hD1).alloc _) (bal (bgo hBVd hD1) _) (.slice (some ⟨w1.heap.size, 0, none⟩) 1 1) 1 [.string ((⟨#[111, 114, 100, 101, 114, 32]⟩ : ByteArray) ++ t), .int .i64 ct, .string ⟨#[111, 114, 100, 101, 114]⟩] (by rfl) (block_src w1 [.string ((⟨#[111, 114, 100, 101, 114, 32]⟩ : ByteArray) ++ t), .int .i64 ct, .string ⟨#[111, 114, 100, 101, 114]⟩] _ _ 1 1 3 rfl) (by simp [Value.oneCell']) (by simp [maxLen]; omega) (by omega) ?_
          intro v3 w3 hown3 hB3 hk3
          have hsz1 := hD1.size
          have hb3 : w3.heap[wr.heap.size]? = some (.cells #[.int .i64 a, .int .i64 ct] 78 (0, 0)) := (hk3.2 _ (by simp; omega) HNB.out).trans (((bal hD1 _).block _ hVd).trans GV.out)
          refine hK.out _ _ hb3 (fun hHeld => ?_)
          clear hK K
          try simp only [List.getElem_toArray, List.getElem_cons_zero, List.getElem_cons_succ, Act.put, List.setIfInBounds_toArray, List.set_cons_zero, List.set_cons_succ]
          refine wpAnyH_take (i := 10) (v := ?_) rfl (by kernel_rfl) (by kernel_rfl) (by kernel_rfl) (fun _ _ _ h => h) (Or.inl ⟨by kernel_rfl, ?_⟩) (by assumption) ?_
          rotate_left
          · intro w hSw
            (try dsimp only at hSw)
            go_simp
            first | done | with_reducible rfl
          simp only [List.getElem_toArray, List.getElem_cons_zero, List.getElem_cons_succ, Act.put, List.setIfInBounds_toArray, List.set_cons_zero, List.set_cons_succ]
          refine wpAnyH_done (by kernel_rfl) ?_ _
          dsimp only [NoPanic]
          have HO3 := Lib.hid hown3
          clear hHeld hb3 hown3 hk3
          go_wp2
          go_roundw
          case rel => exact ⟨j + 1, by omega, by go_num, by rw [HS.out]; exact HO3.out, hB3⟩
          case measure => simp [intOf]; omega
        · obtain rfl : j = tn := by omega
          have htk : taken.take j = taken := List.take_of_length_le (by rw [Htn.out]; exact Nat.le_refl _)
          have hownL := HO.out
          rw [htk] at hownL
          have HOL := Lib.hid hownL
          have hf8 : wr.cell? ⟨Bs, 8, none⟩ = some (.int .i64 net) := (hBx.cell (p := ⟨Bs, 8, none⟩) hsg).trans f8
          obtain ⟨i0, hi0, hz0, hz1, hz2⟩ := info_parts info_row
          clear hownL htk f8 hj
          go_wp2_with (at_builtin; refine app_one rfl _ _ 38 rfl 64 i0 (.agg #[.string ⟨#[]⟩, .int .i64 0, .string ⟨#[]⟩]) 3 40 Tryd.underlying38 hi0 hz0 hz1 hz2 rfl (by decide) _ (4 + j) _ rfl HOL.out hBx [.string ⟨#[110, 101, 116]⟩, .int .i64 net, .string ⟨#[114, 101, 115, 116]⟩] _ _ rfl rfl (by simp [Value.oneCell']) (by unfold maxLen; omega) (by omega) ?_)
          intro v3 w3 hown3 hB3 _
          have hT : rowsV (sumsL gross tax deduct floor ++ taken.map orderR) ++ [.string ⟨#[110, 101, 116]⟩, .int .i64 net, .string ⟨#[114, 101, 115, 116]⟩] = rowsV (tailR ⟨person, month, LA', lc, lines, gross, tax, deduct, floor, TA, tc, taken, net⟩) := by
            unfold tailR
            dsimp only
            rw [rowsV_app]
            rfl
          rw [hT] at hown3
          obtain ⟨T, hTT⟩ : ∃ T, tailR ⟨person, month, LA', lc, lines, gross, tax, deduct, floor, TA, tc, taken, net⟩ = T := ⟨_, rfl⟩
          rw [hTT] at hown3
          have hTl : T.length = 4 + j + 1 := by
            rw [← hTT]
            unfold tailR
            dsimp only
            rw [List.length_append, List.length_append, List.length_map, Htn.out]
            rfl
          have hRl : R.length = N1 + (4 + j + 1) := by
            rw [← hR.out]
            unfold rowsL
            rw [List.length_append, hTT, hTl]
            dsimp only
            rw [HN1.out]
          have hRg : ∀ i x, T[i]? = some x → R[N1 + i]? = some x := by
            intro i x hx
            rw [← hR.out]
            unfold rowsL
            rw [hTT]
            dsimp only
            rw [List.getElem?_append_right (by rw [HN1.out]; omega), HN1.out, Nat.add_sub_cancel_left]
            exact hx
          obtain ⟨X, cap, hv, hX0, hX3, cur, hcur, hcs⟩ : ∃ X cap, v3 = .slice (some ⟨X, 0, none⟩) (4 + j + 1) cap ∧ wo.heap.size ≤ X ∧ X < w3.heap.size ∧ ∃ cur, w3.heap[X]? = some (.cells cur 64 (0, 0)) ∧ cur.toList.take ((4 + j + 1) * 3) = rowsV T := by
            rcases hown3.2 with ⟨_, h0⟩ | ⟨g, cap, cur, h1, h2, h3, h4, h5, h6, h7⟩
            · omega
            · exact ⟨g, cap, h1, h2, (Array.getElem?_eq_some_iff.1 h3).1, cur, h3, h7⟩
          subst hv
          have HT := Lib.hid (And.intro hTl (And.intro hRl (And.intro hRg (And.intro hcur hcs))))
          clear hT hTT hTl hRl hRg hcur hcs hown3 hf8
          have hw3 := bgo hB hB3
          obtain ⟨M, hM⟩ : ∃ M, 4 + j + 1 = M := ⟨_, rfl⟩
          have hMl : M ≤ 1000005 := by omega
          rw [hM]
          rw [hM] at HT
          clear hBx
          go_wp2
          go_loopw [87] (fun q wx => ∃ i : Nat, i ≤ M ∧ q = .int .i64 (i : Int) ∧ ∃ g' W0', J (N1 + i) g' W0' ∧ Below W0'.heap.size W0' wx ∧ wx.heap[X]? = some (.cells cur 64 (0, 0)) ∧ g' ≠ X) (fun q _ => M - (intOf q).toNat)
          case atStart => exact ⟨0, Nat.zero_le _, rfl, g, W0, HJk.out, hw3, HT.out.2.2.2.1, by have := HBsz.out; omega⟩
          case round =>
            obtain ⟨i, hi, rfl, g', W0', hJi, hBi, hXi, hgX⟩ := hrel
            have HXi := Lib.hid hXi
            have HJi := Lib.hid hJi
            have hD' := HD.out _ _ _ hJi
            have hsz' := hBi.size
            clear hXi hJi
            by_cases hiM : i < M
            · have hiM' : (i : Int) < (M : Int) := by omega
              have hiT : i < T.length := by rw [HT.out.1]; exact hiM
              obtain ⟨x, hx⟩ : ∃ x, T[i] = x := ⟨_, rfl⟩
              have hxg : T[i]? = some x := by rw [List.getElem?_eq_getElem hiT, hx]
              have hget := flat_get rowV 3 (fun _ => rfl) T i hiT
              rw [hx] at hget
              have cc : ∀ q v, (rowV x)[q]? = some v → q < 3 → wr.cell? ⟨X, i * 3 + q, none⟩ = some v := by
                intro q v hv hq
                rw [Lib.cell_of_heap HXi.out]
                have h1 : (rowsV T)[i * 3 + q]? = some v := (hget q hq).trans hv
                rw [← HT.out.2.2.2.2, List.getElem?_take] at h1
                split at h1
                · simpa using h1
                · cases h1
              obtain ⟨xl, xc, xr⟩ := x
              have y0 : wr.cell? ⟨X, i * 3, none⟩ = some (.string xl) := cc 0 _ rfl (by decide)
              have y1 : wr.cell? ⟨X, i * 3 + 1, none⟩ = some (.int .i64 xc) := cc 1 _ rfl (by decide)
              have y2 : wr.cell? ⟨X, i * 3 + 2, none⟩ = some (.string xr) := cc 2 _ rfl (by decide)
              have Hrow := Lib.hid (HT.out.2.2.1 i _ hxg)
              clear cc hget hx hxg hiT
              go_upto_region 17 with fail
              obtain ⟨V, hV⟩ : ∃ V, V = wr.alloc (.cells #[.string xl, .int .i64 xc, .string xr] 64) := ⟨_, rfl⟩
              rw [← hV]
              have gV : V.heap[wr.heap.size]? = some (.cells #[.string xl, .int .i64 xc, .string xr] 64 (0, 0)) := by rw [hV]; exact World.alloc_heap_new _ _
              have hBV : Below wr.heap.size wr V := by rw [hV]; exact bal (Below.refl _ _) _
              clear hV y0 y1 y2
              have z0 : V.cell? ⟨wr.heap.size, 0, none⟩ = some (.string xl) := by rw [Lib.cell_of_heap gV]; rfl
              have z1 : V.cell? ⟨wr.heap.size, 1, none⟩ = some (.int .i64 xc) := by rw [Lib.cell_of_heap gV]; rfl
              have z2 : V.cell? ⟨wr.heap.size, 2, none⟩ = some (.string xr) := by rw [Lib.cell_of_heap gV]; rfl
              have hXV : Hid (V.heap[X]? = some (.cells cur 64 (0, 0))) := Lib.hid ((hBV.block _ (Array.getElem?_eq_some_iff.1 HXi.out).1).trans HXi.out)
              have hXl : X < V.heap.size := (Array.getElem?_eq_some_iff.1 hXV.out).1
              have hyl := HY.out _ g' W0' V _ Hrow.out HJi.out (bgo hBi hBV)
              dsimp only at hyl
              obtain ⟨fnY, tmpsY, assignY, bodyY, hy, hR1⟩ := hyl
              have HR1 := Lib.hid hR1
              have hB0X : B0 ≤ X := Nat.le_trans Hat.out.lt hX0
              clear hR1 gV
              refine (wpIn_wide (n := m + 1)).1 ?_
              gi_wp2
              refine HR1.out.mono ?_
              rintro e W2 ⟨hres0, hkeep, hsz2⟩
              have hX2 := (hkeep X hB0X (fun h => hgX h.symm) hXl).trans hXV.out
              have HX2 := Lib.hid hX2
              clear hkeep hy hX2 z0 z1 z2
              rcases hres0 with ⟨rfl, g2, hJ2, hg2⟩ | ⟨rfl, hE2⟩
              · have hgX2 : g2 ≠ X := by omega
                have HJ2 := Lib.hid hJ2
                clear hJ2 hg2
                gi_wp2
                go_wp2
                go_roundw
                case rel => exact ⟨i + 1, by omega, by go_num, g2, W2, by rw [← Nat.add_assoc]; exact HJ2.out, Below.refl _ _, HX2.out, hgX2⟩
                case measure => simp [intOf]; omega
              · have HE2 := Lib.hid hE2
                clear hE2
                gi_wp2
                go_wp2
                refine bodyPost_ret (results_none rfl _ _ _) rfl ?_
                exact ⟨⟨_, rfl⟩, W2, Below.refl _ _, .inr HE2.out⟩
            · obtain rfl : i = M := by omega
              go_wp2
              refine bodyPost_end (results_none rfl _ _ _) rfl ?_
              exact ⟨⟨_, rfl⟩, W0', hBi, .inl ⟨g', by rw [HT.out.2.1]; exact HJi.out⟩⟩
end Go.Proofs.YtfjkmhbipkoefaaDoor
